/- The example of chapter 25, plainly. · filigreelaw25.live. -/
import Derived.Test.YtaajnmggbhnndaaGreatDoorZMapG
import Derived.Test.YtaajnmggbhnndaaGreatDoorZLRun
import Derived.Test.YtaajnmggbhnndaaGreatDoorZLLev
import Derived.Test.YtaajnmggbhnndaaGreatDoorZLMap
import Derived.Test.YtaajnmggbhnndaaGreatDoorZR25M
namespace Go.Proofs.YtaajnmggbhnndaaGreatDoor
open Go.RowKit
set_option linter.unusedVariables false
set_option linter.unusedSimpArgs false
/-- the and of two inputs -/
def G1 (AA AO : Option Addr) : AG := { I := 2, AF := none, cF := 0, fl := [], AA := AA, cA := 1, an := [(2, 4)], AO := AO, cO := 1, ou := [7] }
section
variable (AA AO : Option Addr)
theorem g1_ok : (G1 AA AO).ok := by
  refine ⟨show (0 : Int) ≤ 2 by decide, by simp [G1], fun x hx => ?_, fun i h => ?_⟩
  · have h7 : x = 7 := by simpa [G1] using hx
    subst h7
    show litB 3 7 = true
    decide
  have h1 : i < 1 := h
  obtain rfl : i = 0 := by omega
  show gateB 3 0 ((2 : Int), (4 : Int)) = false
  decide
theorem g1_fit : (G1 AA AO).fit := ⟨show (2 : Int) ≤ 1000 by decide, show 0 ≤ 1000 by decide, show 1 ≤ 1000 by decide, show 1 ≤ 1000 by decide⟩
theorem g1_cnt : (G1 AA AO).cnt = 3 := rfl
theorem g1_fst : (G1 AA AO).fst = 3 := rfl
theorem g1_cn : (G1 AA AO).cn = 4 := rfl
theorem g1_ands : (G1 AA AO).ands = [(2, 4)] := rfl
theorem mrg1_12 : Cut.mrg [1] [2] = [1, 2] := by simp [Cut.mrg]
theorem merge1_12 : Cut.merge [1] [2] 4 = some [1, 2] := by
  rw [merge_some, mrg1_12]
  refine ⟨by decide, by decide, by decide, by decide, by rw [mrg1_12]; decide⟩
theorem g1_tab12 : (G1 AA AO).tabG [1, 2] 3 = some (Cut.col 0 &&& Cut.col 1) := by
  unfold AG.tabG
  have k1 : Cut.known [1, 2] Cut.col 1 = some (Cut.col 0) := rfl
  have k2 : Cut.known [1, 2] Cut.col 2 = some (Cut.col 1) := rfl
  have k3 : Cut.known [1, 2] Cut.col 3 = none := rfl
  rw [g1_ands, g1_fst, Cut.tab_gate (a := 2) (b := 4) k3 (by omega) rfl (by omega) (by omega), Cut.tab_known (show Cut.known [1, 2] Cut.col (2 / 2) = some (Cut.col 0) from k1), Cut.tab_known (show Cut.known [1, 2] Cut.col (4 / 2) = some (Cut.col 1) from k2)]
  rfl
theorem g1_good12 : (G1 AA AO).good [1, 2] 3 = some 8 := by
  rw [AG.good_yes ⟨g1_ok AA AO, by omega, (show (3 : Int) ≤ 3 from Int.le_refl _), by rw [g1_cnt]; decide⟩]
  show (G1 AA AO).table [1, 2] 3 = some 8
  unfold AG.table
  rw [g1_tab12]
  show some ((Cut.col 0 &&& Cut.col 1) &&& Cut.rows 2) = some 8
  congr 1
theorem g1_gate : Cut.gate [0, 0, 0] [[1]] [[2]] 4 = [[1, 2]] := by
  unfold Cut.gate Cut.gateAll
  have e : Cut.pairs [[(1 : Int)]] [[2]] = [([1], [2])] := rfl
  rw [e]
  simp only [List.foldl_cons, List.foldl_nil, Cut.putM, merge1_12]
  rfl
theorem g1_row1 : (G1 AA AO).bothTo 4 1 = ([[([], 0)], [([1], 2)]], [0, 0]) := by
  rw [AG.bothTo, AG.bothTo]
  unfold AG.cutRow
  rw [g1_fst, if_pos (by omega)]; rfl
theorem g1_row2 : (G1 AA AO).bothTo 4 2 = ([[([], 0)], [([1], 2)], [([2], 2)]], [0, 0, 0]) := by
  rw [AG.bothTo, g1_row1]
  unfold AG.cutRow
  rw [g1_fst, if_pos (by omega)]; rfl
theorem g1_both : (G1 AA AO).bothTo 4 3 = ([[([], 0)], [([1], 2)], [([2], 2)], [([1, 2], 8), ([3], 2)]], [0, 0, 0, 1]) := by
  rw [AG.bothTo, g1_row2]
  have h : (G1 AA AO).cutRow 4 [[([], 0)], [([1], 2)], [([2], 2)]] [0, 0, 0] (2 + 1) = ([([1, 2], 8), ([3], 2)], 1) := by
    unfold AG.cutRow
    rw [g1_fst, if_neg (by omega), g1_ands]
    show ((Cut.gate [0, 0, 0] [[1]] [[2]] 4).map _ ++ _, _) = _
    have hg := g1_gate
    simp only [show ([(2, 4)] : List (Nat × Nat)).getD (2 + 1 - 3) (0, 0) = (2, 4) from rfl, show ([[([], 0)], [([1], 2)], [([2], 2)]] : List (List PC)).getD (2 / 2) [] = [([1], 2)] from rfl, show ([[([], 0)], [([1], 2)], [([2], 2)]] : List (List PC)).getD (4 / 2) [] = [([2], 2)] from rfl, List.map_cons, List.map_nil, g1_gate]
    have h8 := g1_good12 AA AO
    simp only [show ((2 + 1 : Nat) : Int) = 3 from rfl, h8]
    rfl
  rw [h]; rfl
end
/-- the tables that a gate of two inputs, turned round, is made -/
theorem live_mp (M : MP) (hF : M.F = 3) (hN : M.N = 4) (hts : M.ts = [7]) (hC : M.C 3 = [1, 2]) (hT : M.T 3 = 8) : M.at_ 7 = 3 ∧ M.luts = [([1, 2], 7)] := by
  have hnd : M.nd = [false, false, false, false, false, false, false, true] := by
    unfold MP.nd
    rw [hN, hF]
    show M.back 1 = _
    rw [MP.back, MP.back, MP.nd0, hN, hF, hts]
    show (if needX [false, false, false, false, false, false, false, true] 3 = true then tells 3 [false, false, false, false, false, false, false, true] ((M.C 3).map (2 * ·)) else _) = _
    rw [hC]
    rfl
  have hl : M.lits = [7] := by
    unfold MP.lits
    rw [hnd, hN]
    rfl
  have h2 : M.at_ 2 = 1 := by unfold MP.at_; rw [hnd]; rfl
  have h4 : M.at_ 4 = 2 := by unfold MP.at_; rw [hnd]; rfl
  refine ⟨?_, ?_⟩
  · unfold MP.at_ MP.idx
    rw [hnd, hF]
    rfl
  · unfold MP.luts
    rw [hl]
    show [M.lut 7] = _
    unfold MP.lut
    rw [if_pos (by rw [hF]; decide)]
    show [((M.C 3).map (fun z => (M.at_ (2 * z) : Int)), if 7 % 2 = 1 then M.T 3 ^^^ Cut.rows (M.C 3).length else M.T 3)] = _
    rw [hC, hT]
    show [([(M.at_ 2 : Int), (M.at_ 4 : Int)], 8 ^^^ Cut.rows 2)] = _
    rw [h2, h4]
    decide
theorem g1_may (AA AO : Option Addr) : (G1 AA AO).ok ∧ 2 ≤ (4 : Int) ∧ (4 : Int) ≤ 6 := ⟨g1_ok AA AO, by decide, by decide⟩
theorem g1_map (AA AO : Option Addr) {N : NT} (h : N.IsMap (G1 AA AO) 4) : N.I = 2 ∧ N.hs = [] ∧ N.luts = [([1, 2], 7)] ∧ N.ou = [3] := by
  have hc0 : (G1 AA AO).c0 4 3 = ([1, 2], 8) := by
    unfold AG.c0
    rw [← AG.rowAt_eq (G1 AA AO) 4 (Nat.le_refl 3), g1_both]
    rfl
  have hm := live_mp ((G1 AA AO).mp 4) rfl rfl rfl (by show ((G1 AA AO).c0 4 3).1.map Int.toNat = _; rw [hc0]; rfl) (by show ((G1 AA AO).c0 4 3).2 = _; rw [hc0])
  refine ⟨h.i, h.hs, h.ls.trans hm.2, ?_⟩
  rw [h.ou]
  show [(((G1 AA AO).mp 4).at_ 7 : Int)] = [3]
  rw [hm.1]
  rfl
/-- the net that is wanted -/
def W0 (g : Nat) : NT := ⟨2, none, 0, [], some ⟨g + 1, 0, none⟩, 1, [((some ⟨g, 0, none⟩, 2, [1, 2]), 7)], some ⟨g + 1 + 1, 0, none⟩, 1, [3]⟩
theorem w0_fit (g : Nat) : (W0 g).fit := ⟨(show 0 ≤ 1000 by decide), (show 1 ≤ 1000 by decide), (show 1 ≤ 1000 by decide), fun c hc => (by
  have h : c = ((some ⟨g, 0, none⟩, 2, [1, 2]), 7) := by simpa [W0] using hc
  subst h; show 2 ≤ 1000; decide), .inl (by show (2 : Int) ≤ 1000; decide)⟩
theorem w0_wf (g : Nat) : (W0 g).wf := by
  refine ⟨(by show -9223372036854775808 ≤ (2 : Int) ∧ (2 : Int) ≤ 9223372036854775807; decide), fun x hx => (by cases hx), fun c hc => ?_, fun x hx => ?_⟩
  · have h : c = ((some ⟨g, 0, none⟩, 2, [1, 2]), 7) := by simpa [W0] using hc
    subst h
    refine ⟨fun x hx => ?_, by show 7 < 18446744073709551616; decide⟩
    have h2 : x = 1 ∨ x = 2 := by simpa using hx
    rcases h2 with rfl | rfl <;> decide
  · have h : x = 3 := by simpa [W0] using hx
    subst h; decide
theorem w0_chk (g : Nat) : (W0 g).chk 6 = 0 ∧ (W0 g).chk 2 = 0 ∧ (W0 g).chk 1 = 1 := ⟨rfl, rfl, rfl⟩
theorem w0_nodes (g : Nat) : (W0 g).nodesE [true, true] [] = 0 ∧ (W0 g).nodesV [true, true] [] = [false, true, true, false] := ⟨rfl, (nodesV_yes rfl).1.trans (by show nvTo [([1, 2], 7)] [true, true] [] 1 = _; decide)⟩
theorem w0_eval (g : Nat) : (W0 g).nodesE [true, false] [] = 0 ∧ (W0 g).evO [true, false] [] = [true] ∧ (W0 g).evN [true, false] [] = [] := ⟨rfl, (nodesV_yes rfl).2.1.trans (by show pickB (nvTo [([1, 2], 7)] [true, false] [] 1) [3] = _; decide), (nodesV_yes rfl).2.2.trans rfl⟩
theorem w0_run (g : Nat) : (W0 g).runE [[true, true], [false, false]] = 0 ∧ (W0 g).runV [[true, true], [false, false]] = [[false], [true]] := ⟨rfl, (if_pos rfl).trans (by
  have hst : ∀ j, (W0 g).stA [[true, true], [false, false]] j = [] := fun j => by cases j <;> rfl
  unfold NT.outA
  simp only [hst]
  show (List.range 2).map (fun j => pickB (nvTo [([1, 2], 7)] (([[true, true], [false, false]] : List (List Bool)).getD j []) [] 1) [3]) = _
  decide)⟩
theorem w0_lev (g : Nat) : (W0 g).levV = [0, 0, 0, 1] := rfl
end Go.Proofs.YtaajnmggbhnndaaGreatDoor

namespace Go.Proofs.YtaajnmggbhnndaaGreatDoor
open Go.RowKit Go.Maps
set_option linter.unusedVariables false
set_option linter.unusedSimpArgs false
/-- the wanted net in memory -/
structure LW (g : Nat) (wx : World) : Prop where
  box : Blk wx (g + 1 + 1 + 1) 32 #[.int .i64 2, .slice none 0 0, .slice (some ⟨g + 1, 0, none⟩) 1 1, .slice (some ⟨g + 1 + 1, 0, none⟩) 1 1]
  in_ : (W0 g).In wx
theorem LW.keep {g : Nat} {wx wy : World} (h : LW g wx) (hb : Below wx.heap.size wx wy) : LW g wy := ⟨h.box.keep hb, h.in_.later hb⟩
theorem lw_made (w : World) : LW w.heap.size ((((w.alloc (.cells #[.int .i64 1, .int .i64 2] 3)).alloc (.cells #[.slice (some ⟨w.heap.size, 0, none⟩) 2 2, .int .u64 7] 41)).alloc (.cells #[.int .i64 3] 3)).alloc (.cells #[.int .i64 2, .slice none 0 0, .slice (some ⟨w.heap.size + 1, 0, none⟩) 1 1, .slice (some ⟨w.heap.size + 1 + 1, 0, none⟩) 1 1] 32)) := by
  have h0 := (((Blk.made w 3 #[.int .i64 1, .int .i64 2]).alloc (.cells #[.slice (some ⟨w.heap.size, 0, none⟩) 2 2, .int .u64 7] 41)).alloc (.cells #[.int .i64 3] 3)).alloc (.cells #[.int .i64 2, .slice none 0 0, .slice (some ⟨w.heap.size + 1, 0, none⟩) 1 1, .slice (some ⟨w.heap.size + 1 + 1, 0, none⟩) 1 1] 32)
  have h1 := ((blk_made1 w (.cells #[.int .i64 1, .int .i64 2] 3) 41 #[.slice (some ⟨w.heap.size, 0, none⟩) 2 2, .int .u64 7]).alloc (.cells #[.int .i64 3] 3)).alloc (.cells #[.int .i64 2, .slice none 0 0, .slice (some ⟨w.heap.size + 1, 0, none⟩) 1 1, .slice (some ⟨w.heap.size + 1 + 1, 0, none⟩) 1 1] 32)
  have h2 := (blk_made2 w (.cells #[.int .i64 1, .int .i64 2] 3) (.cells #[.slice (some ⟨w.heap.size, 0, none⟩) 2 2, .int .u64 7] 41) 3 #[.int .i64 3]).alloc (.cells #[.int .i64 2, .slice none 0 0, .slice (some ⟨w.heap.size + 1, 0, none⟩) 1 1, .slice (some ⟨w.heap.size + 1 + 1, 0, none⟩) 1 1] 32)
  have h3 := blk_made3 w (.cells #[.int .i64 1, .int .i64 2] 3) (.cells #[.slice (some ⟨w.heap.size, 0, none⟩) 2 2, .int .u64 7] 41) (.cells #[.int .i64 3] 3) 32 #[.int .i64 2, .slice none 0 0, .slice (some ⟨w.heap.size + 1, 0, none⟩) 1 1, .slice (some ⟨w.heap.size + 1 + 1, 0, none⟩) 1 1]
  refine ⟨h3, ⟨Rd.none0 _ _ _ _ (fun _ => rfl), ⟨rd_of_blk (cs := [.slice (some ⟨w.heap.size, 0, none⟩) 2 2, .int .u64 7]) h1 2 1 rfl, fun c hc => ?_⟩, rd_of_blk (cs := ints [3]) h2 1 1 rfl⟩⟩
  have h : c = ((some ⟨w.heap.size, 0, none⟩, 2, [1, 2]), 7) := by simpa [W0] using hc
  subst h
  exact rd_of_blk (cs := ints [1, 2]) h0 1 2 rfl
theorem live_map (AA AO : Option Addr) (W : World) (hin : (G1 AA AO).In W) (hc : COLS W) : Calls Tryz.prog 6 #[.agg #[.int .i64 2, .slice none 0 0, .slice AA 1 1, .slice AO 1 1], .int .i64 4] W fun e w' => ∃ N : NT, e = .returned (.tuple #[.agg #[.int .i64 N.I, .slice N.AH N.hs.length N.cH, .slice N.AL N.ls.length N.cL, .slice N.AO N.ou.length N.cO], .int .i64 0]) ∧ Below W.heap.size W w' ∧ N.In w' ∧ N.IsMap (G1 AA AO) 4 := by
  have hwf : (G1 AA AO).wf := ⟨fun x hx => (by cases hx), fun x hx => (by
    have h : x = (2, 4) := by simpa [G1] using hx
    subst h; decide), fun x hx => (by
    have h : x = 7 := by simpa [G1] using hx
    subst h; decide)⟩
  have h1 := lmap_any (G1 AA AO) 4 W hin (g1_fit _ _) hwf hc
  exact (show Calls Tryz.prog 6 #[.agg #[.int .i64 2, .slice none 0 0, .slice AA 1 1, .slice AO 1 1], .int .i64 4] W _ from h1).mono fun e w' ⟨h2, _⟩ => h2 (g1_may _ _)
theorem live_same (AA AO : Option Addr) (N : NT) (g : Nat) (W : World) (hN : N.In W) (hW : LW g W) (hM : N.IsMap (G1 AA AO) 4) : Calls Tryz.prog 8 #[.agg #[.int .i64 N.I, .slice N.AH N.hs.length N.cH, .slice N.AL N.ls.length N.cL, .slice N.AO N.ou.length N.cO], .agg #[.int .i64 2, .slice none 0 0, .slice (some ⟨g + 1, 0, none⟩) 1 1, .slice (some ⟨g + 1 + 1, 0, none⟩) 1 1]] W fun r w' => r = .returned (.bool true) ∧ Below W.heap.size W w' := by
  obtain ⟨h1, h2, h3, h4⟩ := g1_map AA AO hM
  have hl : N.ls.length = 1 := by rw [← N.luts_len, h3]; rfl
  refine rsame25_yes N (W0 g) W hN hW.in_ h1.symm h2.symm h3 h4.symm (by rw [h2]; decide) (by omega) (by rw [h4]; decide) (fun c hc => ?_)
  have hm : (c.1.2.2, c.2) ∈ pcs N.ls := List.mem_map.2 ⟨c, hc, rfl⟩
  rw [show pcs N.ls = [([1, 2], 7)] from h3] at hm
  have := List.mem_singleton.1 hm
  rw [(Prod.mk.inj this).1]
  decide
theorem live_nodes (g : Nat) (W : World) (hW : LW g W) (A : Option Addr) (c : Nat) (hA : Rd W 1 A 2 c (bools [true, true])) : Calls Tryz.prog 9 #[.agg #[.int .i64 2, .slice none 0 0, .slice (some ⟨g + 1, 0, none⟩) 1 1, .slice (some ⟨g + 1 + 1, 0, none⟩) 1 1], .slice A 2 c, .slice none 0 0] W fun r w' => ∃ A c, r = .returned (.tuple #[.slice A 4 c, .int .i64 0]) ∧ Below W.heap.size W w' ∧ Rd w' 1 A 4 c (bools [false, true, true, false]) := by
  have h1 := lnodes_any (W0 g) A none c 0 [true, true] [] W hW.in_ (w0_fit g) (w0_wf g) hA (rd_nilB W)
  unfold NodesOut at h1
  rw [(w0_nodes g).1, (w0_nodes g).2] at h1
  exact h1
theorem live_eval (g : Nat) (W : World) (hW : LW g W) (A : Option Addr) (c : Nat) (hA : Rd W 1 A 2 c (bools [true, false])) : Calls Tryz.prog 10 #[.agg #[.int .i64 2, .slice none 0 0, .slice (some ⟨g + 1, 0, none⟩) 1 1, .slice (some ⟨g + 1 + 1, 0, none⟩) 1 1], .slice A 2 c, .slice none 0 0] W fun r w' => ∃ A c B d, r = .returned (.tuple #[.slice A 1 c, .slice B 0 d, .int .i64 0]) ∧ Below W.heap.size W w' ∧ Rd w' 1 A 1 c (bools [true]) := by
  have h1 := leval_any (W0 g) A none c 0 [true, false] [] W hW.in_ (w0_fit g) (w0_wf g) hA (rd_nilB W)
  unfold EvalOut at h1
  rw [(w0_eval g).1, (w0_eval g).2.1, (w0_eval g).2.2] at h1
  exact h1.mono fun r w' ⟨A, c, B, d, h2, h3, h4, _⟩ => ⟨A, c, B, d, h2, h3, h4⟩
theorem live_run (g : Nat) (W : World) (hW : LW g W) (A : Option Addr) (c : Nat) (rs : List SB) (hr : RowsB W A c rs) (hp : rowsP rs = [[true, true], [false, false]]) (hl : rs.length = 2) : Calls Tryz.prog 11 #[.agg #[.int .i64 2, .slice none 0 0, .slice (some ⟨g + 1, 0, none⟩) 1 1, .slice (some ⟨g + 1 + 1, 0, none⟩) 1 1], .slice A 2 c] W fun r w' => ∃ A c ls, r = .returned (.tuple #[.slice A 2 c, .int .i64 0]) ∧ Below W.heap.size W w' ∧ RowsB w' A c ls ∧ rowsP ls = [[false], [true]] ∧ (ls : List SB).length = 2 := by
  have h1 := lrun_any (W0 g) A c rs W hW.in_ (w0_fit g) (w0_wf g) hr (by omega) (fun l hl2 => by
    have hm : l.2.2 ∈ rowsP rs := List.mem_map.2 ⟨l, hl2, rfl⟩
    rw [hp] at hm
    simp only [List.mem_cons, List.not_mem_nil, or_false] at hm
    rcases hm with e | e <;> rw [e] <;> decide)
  unfold RunOut at h1
  rw [hp, (w0_run g).1, (w0_run g).2, hl] at h1
  refine h1.mono fun r w' ⟨A, c, ls, h2, h3, h4, h5⟩ => ?_
  have hll : ls.length = 2 := by have e := congrArg List.length h5; rw [rowsP_len] at e; exact e
  exact ⟨A, c, ls, by rw [h2, hll], h3, h4, h5, hll⟩
theorem live_lev (g : Nat) (W : World) (hW : LW g W) : Calls Tryz.prog 12 #[.agg #[.int .i64 2, .slice none 0 0, .slice (some ⟨g + 1, 0, none⟩) 1 1, .slice (some ⟨g + 1 + 1, 0, none⟩) 1 1]] W fun r w' => ∃ A c, r = .returned (.tuple #[.slice A 4 c, .int .i64 0]) ∧ Below W.heap.size W w' ∧ Rd w' 1 A 4 c (ints [0, 0, 0, 1]) := by
  have h1 := llevels_any (W0 g) W hW.in_ (w0_fit g) (w0_wf g)
  unfold LevOut at h1
  rw [w0_lev g, (w0_chk g).1] at h1
  exact h1
theorem live_chk2 (g : Nat) (W : World) (hW : LW g W) : Calls Tryz.prog 16 #[.agg #[.int .i64 2, .slice none 0 0, .slice (some ⟨g + 1, 0, none⟩) 1 1, .slice (some ⟨g + 1 + 1, 0, none⟩) 1 1], .int .i64 2] W fun r w' => r = .returned (.int .i64 0) ∧ Below W.heap.size W w' := by
  have h1 := lcheck_any (W0 g) 2 W hW.in_ (w0_fit g) (w0_wf g)
  rw [(w0_chk g).2.1] at h1
  exact h1
theorem live_chk1 (g : Nat) (W : World) (hW : LW g W) : Calls Tryz.prog 16 #[.agg #[.int .i64 2, .slice none 0 0, .slice (some ⟨g + 1, 0, none⟩) 1 1, .slice (some ⟨g + 1 + 1, 0, none⟩) 1 1], .int .i64 1] W fun r w' => r = .returned (.int .i64 1) ∧ Below W.heap.size W w' := by
  have h1 := lcheck_any (W0 g) 1 W hW.in_ (w0_fit g) (w0_wf g)
  rw [(w0_chk g).2.2] at h1
  exact h1
/-- two rows of bits, made -/
theorem rows2_made (W : World) (x y : List Bool) : RowsB (((W.alloc (.cells (bools x).toArray 4)).alloc (.cells (bools y).toArray 4)).alloc (.cells #[.slice (some ⟨W.heap.size, 0, none⟩) x.length x.length, .slice (some ⟨W.heap.size + 1, 0, none⟩) y.length y.length] 42)) (some ⟨W.heap.size + 1 + 1, 0, none⟩) 2 [(some ⟨W.heap.size, 0, none⟩, x.length, x), (some ⟨W.heap.size + 1, 0, none⟩, y.length, y)] := by
  have h0 := ((Blk.made W 4 (bools x).toArray).alloc (.cells (bools y).toArray 4)).alloc (.cells #[.slice (some ⟨W.heap.size, 0, none⟩) x.length x.length, .slice (some ⟨W.heap.size + 1, 0, none⟩) y.length y.length] 42)
  have h1 := (blk_made1 W (.cells (bools x).toArray 4) 4 (bools y).toArray).alloc (.cells #[.slice (some ⟨W.heap.size, 0, none⟩) x.length x.length, .slice (some ⟨W.heap.size + 1, 0, none⟩) y.length y.length] 42)
  have h2 := blk_made2 W (.cells (bools x).toArray 4) (.cells (bools y).toArray 4) 42 #[.slice (some ⟨W.heap.size, 0, none⟩) x.length x.length, .slice (some ⟨W.heap.size + 1, 0, none⟩) y.length y.length]
  refine ⟨rd_of_blk (cs := [.slice (some ⟨W.heap.size, 0, none⟩) x.length x.length, .slice (some ⟨W.heap.size + 1, 0, none⟩) y.length y.length]) h2 1 2 rfl, fun l hl => ?_⟩
  simp only [List.mem_cons, List.not_mem_nil, or_false] at hl
  rcases hl with rfl | rfl
  · exact rd_of_blk h0 1 x.length (by simp [bools])
  · exact rd_of_blk h1 1 y.length (by simp [bools])
set_option maxRecDepth 100000 in
set_option maxHeartbeats 8000000 in
theorem live25_any (w : World) (hcols : COLS w) : Calls Tryz.prog 4 #[] w fun r w' => r = .returned (.bool true) ∧ Below w.heap.size w w' := by
  have BW := below_then (below_then (below_new w (.cells #[.int .i64 2, .int .i64 4] 38)) (below_new _ (.cells #[.int .i64 7] 3))) (below_new _ (.cells #[.int .i64 2, .slice none 0 0, .slice (some ⟨w.heap.size, 0, none⟩) 1 1, .slice (some ⟨w.heap.size + 1, 0, none⟩) 1 1] 26))
  have B1 := Lib.hid BW
  have X1 := Lib.hid (blk_made2 w (.cells #[.int .i64 2, .int .i64 4] 38) (.cells #[.int .i64 7] 3) 26 #[.int .i64 2, .slice none 0 0, .slice (some ⟨w.heap.size, 0, none⟩) 1 1, .slice (some ⟨w.heap.size + 1, 0, none⟩) 1 1])
  have G1 := Lib.hid (show (G1 (some ⟨w.heap.size, 0, none⟩) (some ⟨w.heap.size + 1, 0, none⟩)).In (((w.alloc (.cells #[.int .i64 2, .int .i64 4] 38)).alloc (.cells #[.int .i64 7] 3)).alloc (.cells #[.int .i64 2, .slice none 0 0, .slice (some ⟨w.heap.size, 0, none⟩) 1 1, .slice (some ⟨w.heap.size + 1, 0, none⟩) 1 1] 26)) from
    ⟨Rd.none0 _ _ _ _ (fun _ => rfl), rd_of_blk (cs := pc [(2, 4)]) (((Blk.made w 38 #[.int .i64 2, .int .i64 4]).alloc _).alloc _) 2 1 rfl, rd_of_blk (cs := ints [7]) ((blk_made1 w (.cells #[.int .i64 2, .int .i64 4] 38) 3 #[.int .i64 7]).alloc _) 1 1 rfl⟩)
  have HC := Lib.hid (hcols.below BW)
  clear hcols BW
  go_enter Tryz.func4, Tryz.ntmps4
  go_upto_region 2 with (fail)
  generalize ((w.alloc (.cells #[.int .i64 2, .int .i64 4] 38)).alloc (.cells #[.int .i64 7] 3)).alloc (.cells #[.int .i64 2, .slice none 0 0, .slice (some ⟨w.heap.size, 0, none⟩) 1 1, .slice (some ⟨w.heap.size + 1, 0, none⟩) 1 1] 26) = w1 at B1 X1 G1 HC ⊢
  have c0 : w1.cell? ⟨w.heap.size + 1 + 1, 0, none⟩ = _ := X1.out.cell 0
  have c1 : w1.cell? ⟨w.heap.size + 1 + 1, 1, none⟩ = _ := X1.out.cell 1
  have c2 : w1.cell? ⟨w.heap.size + 1 + 1, 2, none⟩ = _ := X1.out.cell 2
  have c3 : w1.cell? ⟨w.heap.size + 1 + 1, 3, none⟩ = _ := X1.out.cell 3
  go_wp2_with fail
  refine (live_map _ _ w1 G1.out HC.out).mono ?_
  rintro e w2 ⟨N, rfl, hb2, hN, hM⟩
  have HM := Lib.hid hM
  have B2 := Lib.hid (below_then B1.out hb2)
  have N2 := Lib.hid hN
  clear hb2 hN hM c0 c1 c2 c3 X1 G1 HC
  go_upto_region 4 with (fail)
  have hw3 : (w2.alloc (.cells #[.int .i64 N.I, .slice N.AH N.hs.length N.cH, .slice N.AL N.ls.length N.cL, .slice N.AO N.ou.length N.cO] 32)).heap.size = w2.heap.size + 1 := by simp
  have hL := lw_made (w2.alloc (.cells #[.int .i64 N.I, .slice N.AH N.hs.length N.cH, .slice N.AL N.ls.length N.cL, .slice N.AO N.ou.length N.cO] 32))
  rw [hw3] at hL
  have L4 := Lib.hid hL
  have BN := below_then (below_new w2 (.cells #[.int .i64 N.I, .slice N.AH N.hs.length N.cH, .slice N.AL N.ls.length N.cL, .slice N.AO N.ou.length N.cO] 32)) (below_then (below_then (below_then (below_new (w2.alloc (.cells #[.int .i64 N.I, .slice N.AH N.hs.length N.cH, .slice N.AL N.ls.length N.cL, .slice N.AO N.ou.length N.cO] 32)) (.cells #[.int .i64 1, .int .i64 2] 3)) (below_new _ (.cells #[.slice (some ⟨w2.heap.size + 1, 0, none⟩) 2 2, .int .u64 7] 41))) (below_new _ (.cells #[.int .i64 3] 3))) (below_new _ (.cells #[.int .i64 2, .slice none 0 0, .slice (some ⟨w2.heap.size + 1 + 1, 0, none⟩) 1 1, .slice (some ⟨w2.heap.size + 1 + 1 + 1, 0, none⟩) 1 1] 32)))
  have X4 := Lib.hid (((((Blk.made w2 32 #[.int .i64 N.I, .slice N.AH N.hs.length N.cH, .slice N.AL N.ls.length N.cL, .slice N.AO N.ou.length N.cO]).alloc (.cells #[.int .i64 1, .int .i64 2] 3)).alloc (.cells #[.slice (some ⟨w2.heap.size + 1, 0, none⟩) 2 2, .int .u64 7] 41)).alloc (.cells #[.int .i64 3] 3)).alloc (.cells #[.int .i64 2, .slice none 0 0, .slice (some ⟨w2.heap.size + 1 + 1, 0, none⟩) 1 1, .slice (some ⟨w2.heap.size + 1 + 1 + 1, 0, none⟩) 1 1] 32))
  have N4 := Lib.hid (N2.out.later BN)
  have B4 := Lib.hid (below_then B2.out BN)
  clear hL hw3 BN N2 B2
  generalize (((((w2.alloc (.cells #[.int .i64 N.I, .slice N.AH N.hs.length N.cH, .slice N.AL N.ls.length N.cL, .slice N.AO N.ou.length N.cO] 32)).alloc (.cells #[.int .i64 1, .int .i64 2] 3)).alloc (.cells #[.slice (some ⟨w2.heap.size + 1, 0, none⟩) 2 2, .int .u64 7] 41)).alloc (.cells #[.int .i64 3] 3)).alloc (.cells #[.int .i64 2, .slice none 0 0, .slice (some ⟨w2.heap.size + 1 + 1, 0, none⟩) 1 1, .slice (some ⟨w2.heap.size + 1 + 1 + 1, 0, none⟩) 1 1] 32)) = w4 at L4 X4 N4 B4 ⊢
  have n0 := X4.out.cell 0
  have n1 := X4.out.cell 1
  have n2 := X4.out.cell 2
  have n3 := X4.out.cell 3
  generalize w2.heap.size + 1 = g at L4 ⊢
  have c0 := L4.out.box.cell 0
  have c1 := L4.out.box.cell 1
  have c2 := L4.out.box.cell 2
  have c3 := L4.out.box.cell 3
  go_wp2_with fail
  refine (live_same _ _ N g w4 N4.out L4.out HM.out).mono ?_
  rintro e w5 ⟨rfl, hb5⟩
  have L5 := Lib.hid (L4.out.keep hb5)
  have B5 := Lib.hid (below_then B4.out hb5)
  clear hb5 c0 c1 c2 c3 n0 n1 n2 n3 L4 X4 N4 B4 HM
  have c0 := L5.out.box.cell 0
  have c1 := L5.out.box.cell 1
  have c2 := L5.out.box.cell 2
  have c3 := L5.out.box.cell 3
  have K := Lib.hid (live_nodes g (w5.alloc (.cells #[.bool true, .bool true] 4)) (L5.out.keep (below_new w5 (.cells #[.bool true, .bool true] 4))) (some ⟨w5.heap.size, 0, none⟩) 2 (rd_of_blk (cs := bools [true, true]) (Blk.made w5 4 #[.bool true, .bool true]) 1 2 rfl))
  go_wp2_with fail
  refine K.out.mono ?_
  rintro e w6 ⟨A6, c6, rfl, hb6, hr6⟩
  have b6 := below_then (below_new w5 (.cells #[.bool true, .bool true] 4)) hb6
  have L6 := Lib.hid (L5.out.keep b6)
  have B6 := Lib.hid (below_then B5.out b6)
  have V6 := Lib.hid hr6
  clear hb6 b6 hr6 c0 c1 c2 c3 K
  have c0 := L6.out.box.cell 0
  have c1 := L6.out.box.cell 1
  have c2 := L6.out.box.cell 2
  have c3 := L6.out.box.cell 3
  have K := Lib.hid (live_eval g (w6.alloc (.cells #[.bool true, .bool false] 4)) (L6.out.keep (below_new w6 (.cells #[.bool true, .bool false] 4))) (some ⟨w6.heap.size, 0, none⟩) 2 (rd_of_blk (cs := bools [true, false]) (Blk.made w6 4 #[.bool true, .bool false]) 1 2 rfl))
  go_wp2_with fail
  refine K.out.mono ?_
  rintro e w7 ⟨A7, c7, D7, d7, rfl, hb7, hr7⟩
  have b7 := below_then (below_new w6 (.cells #[.bool true, .bool false] 4)) hb7
  have L7 := Lib.hid (L6.out.keep b7)
  have B7 := Lib.hid (below_then B6.out b7)
  have V7 := Lib.hid (V6.out.later b7)
  have E7 := Lib.hid hr7
  clear hb7 b7 hr7 c0 c1 c2 c3 K
  have c0 := L7.out.box.cell 0
  have c1 := L7.out.box.cell 1
  have c2 := L7.out.box.cell 2
  have c3 := L7.out.box.cell 3
  have b7 := below_then (below_then (below_new w7 (.cells #[.bool true, .bool true] 4)) (below_new _ (.cells #[.bool false, .bool false] 4))) (below_new _ (.cells #[.slice (some ⟨w7.heap.size, 0, none⟩) 2 2, .slice (some ⟨w7.heap.size + 1, 0, none⟩) 2 2] 42))
  have K := Lib.hid (live_run g (((w7.alloc (.cells #[.bool true, .bool true] 4)).alloc (.cells #[.bool false, .bool false] 4)).alloc (.cells #[.slice (some ⟨w7.heap.size, 0, none⟩) 2 2, .slice (some ⟨w7.heap.size + 1, 0, none⟩) 2 2] 42)) (L7.out.keep b7) (some ⟨w7.heap.size + 1 + 1, 0, none⟩) 2 _ (rows2_made w7 [true, true] [false, false]) rfl rfl)
  go_wp2_with fail
  refine K.out.mono ?_
  rintro e w8 ⟨A8, c8, ls8, rfl, hb8, hr8, hp8, hl8⟩
  have b8 := below_then b7 hb8
  have L8 := Lib.hid (L7.out.keep b8)
  have B8 := Lib.hid (below_then B7.out b8)
  have V8 := Lib.hid (V7.out.later b8)
  have E8 := Lib.hid (E7.out.later b8)
  have R8 := Lib.hid hr8
  have HP8 := Lib.hid hp8
  have HL8 := Lib.hid hl8
  clear hb8 b8 b7 hr8 hp8 hl8 c0 c1 c2 c3 K
  have c0 := L8.out.box.cell 0
  have c1 := L8.out.box.cell 1
  have c2 := L8.out.box.cell 2
  have c3 := L8.out.box.cell 3
  go_wp2_with fail
  refine (live_lev g w8 L8.out).mono ?_
  rintro e w9 ⟨A9, c9, rfl, hb9, hr9⟩
  have L9 := Lib.hid (L8.out.keep hb9)
  have B9 := Lib.hid (below_then B8.out hb9)
  have V9 := Lib.hid (V8.out.later hb9)
  have E9 := Lib.hid (E8.out.later hb9)
  have R9 := Lib.hid (R8.out.later hb9)
  have I9 := Lib.hid hr9
  clear hb9 hr9 c0 c1 c2 c3
  have b9 := below_new w9 (.cells #[.bool false, .bool true, .bool true, .bool false] 4)
  have K := Lib.hid (bools25_yes A6 (some ⟨w9.heap.size, 0, none⟩) 4 c6 4 [false, true, true, false] (w9.alloc (.cells #[.bool false, .bool true, .bool true, .bool false] 4)) (V9.out.later b9) (rd_of_blk (cs := bools [false, true, true, false]) (Blk.made w9 4 #[.bool false, .bool true, .bool true, .bool false]) 1 4 rfl) (by decide))
  go_wp2_with fail
  refine K.out.mono ?_
  rintro e w10 ⟨rfl, hb10⟩
  have b10 := below_then b9 hb10
  have L10 := Lib.hid (L9.out.keep b10)
  have B10 := Lib.hid (below_then B9.out b10)
  have E10 := Lib.hid (E9.out.later b10)
  have R10 := Lib.hid (R9.out.later b10)
  have I10 := Lib.hid (I9.out.later b10)
  clear hb10 b10 b9 K
  have b9 := below_new w10 (.cells #[.bool true] 4)
  have K := Lib.hid (bools25_yes A7 (some ⟨w10.heap.size, 0, none⟩) 1 c7 1 [true] (w10.alloc (.cells #[.bool true] 4)) (E10.out.later b9) (rd_of_blk (cs := bools [true]) (Blk.made w10 4 #[.bool true]) 1 1 rfl) (by decide))
  go_wp2_with fail
  refine K.out.mono ?_
  rintro e w11 ⟨rfl, hb11⟩
  have b11 := below_then b9 hb11
  have L11 := Lib.hid (L10.out.keep b11)
  have B11 := Lib.hid (below_then B10.out b11)
  have R11 := Lib.hid (R10.out.later b11)
  have I11 := Lib.hid (I10.out.later b11)
  clear hb11 b11 b9 K
  have b11 := below_then (below_then (below_new w11 (.cells #[.bool false] 4)) (below_new _ (.cells #[.bool true] 4))) (below_new _ (.cells #[.slice (some ⟨w11.heap.size, 0, none⟩) 1 1, .slice (some ⟨w11.heap.size + 1, 0, none⟩) 1 1] 42))
  have K0 := rows25_yes A8 (some ⟨w11.heap.size + 1 + 1, 0, none⟩) c8 2 ls8 [(some ⟨w11.heap.size, 0, none⟩, 1, [false]), (some ⟨w11.heap.size + 1, 0, none⟩, 1, [true])] (((w11.alloc (.cells #[.bool false] 4)).alloc (.cells #[.bool true] 4)).alloc (.cells #[.slice (some ⟨w11.heap.size, 0, none⟩) 1 1, .slice (some ⟨w11.heap.size + 1, 0, none⟩) 1 1] 42)) (R11.out.later b11) (rows2_made w11 [false] [true]) HP8.out (by rw [HL8.out]; decide) (fun l hl => by
    have hm : l.2.2 ∈ rowsP ls8 := List.mem_map.2 ⟨l, hl, rfl⟩
    rw [HP8.out] at hm
    simp only [List.mem_cons, List.not_mem_nil, or_false] at hm
    rcases hm with e | e <;> rw [e] <;> decide)
  rw [HL8.out] at K0
  have K := Lib.hid K0
  clear K0
  go_wp2_with fail
  refine K.out.mono ?_
  rintro e w12 ⟨rfl, hb12⟩
  have b12 := below_then b11 hb12
  have L12 := Lib.hid (L11.out.keep b12)
  have B12 := Lib.hid (below_then B11.out b12)
  have I12 := Lib.hid (I11.out.later b12)
  clear hb12 b12 b11 K
  have b12 := below_new w12 (.cells #[.int .i64 0, .int .i64 0, .int .i64 0, .int .i64 1] 3)
  have K := Lib.hid (ints25_yes A9 (some ⟨w12.heap.size, 0, none⟩) 4 c9 4 [0, 0, 0, 1] (w12.alloc (.cells #[.int .i64 0, .int .i64 0, .int .i64 0, .int .i64 1] 3)) (I12.out.later b12) (rd_of_blk (cs := ints [0, 0, 0, 1]) (Blk.made w12 3 #[.int .i64 0, .int .i64 0, .int .i64 0, .int .i64 1]) 1 4 rfl) (by decide))
  go_wp2_with fail
  refine K.out.mono ?_
  rintro e w13 ⟨rfl, hb13⟩
  have b13 := below_then b12 hb13
  have L13 := Lib.hid (L12.out.keep b13)
  have B13 := Lib.hid (below_then B12.out b13)
  clear hb13 b13 b12 K
  have c0 := L13.out.box.cell 0
  have c1 := L13.out.box.cell 1
  have c2 := L13.out.box.cell 2
  have c3 := L13.out.box.cell 3
  go_wp2_with fail
  refine (live_chk2 g w13 L13.out).mono ?_
  rintro e w14 ⟨rfl, hb14⟩
  have L14 := Lib.hid (L13.out.keep hb14)
  have B14 := Lib.hid (below_then B13.out hb14)
  clear hb14 c0 c1 c2 c3
  have c0 := L14.out.box.cell 0
  have c1 := L14.out.box.cell 1
  have c2 := L14.out.box.cell 2
  have c3 := L14.out.box.cell 3
  go_wp2_with fail
  refine (live_chk1 g w14 L14.out).mono ?_
  rintro e w15 ⟨rfl, hb15⟩
  have B15 := Lib.hid (below_then B14.out hb15)
  clear hb15 c0 c1 c2 c3
  go_wp2_with fail
  go_ret
  exact ⟨rfl, B15.out⟩
end Go.Proofs.YtaajnmggbhnndaaGreatDoor
