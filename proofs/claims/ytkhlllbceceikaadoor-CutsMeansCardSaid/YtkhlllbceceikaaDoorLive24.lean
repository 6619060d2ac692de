/- filigreelaw24.live. -/
import Derived.Test.YtkhlllbceceikaaDoorLiveP24
import Derived.Test.YtkhlllbceceikaaDoorRSame24
namespace Go.Proofs.YtkhlllbceceikaaDoor
open Go.RowKit
set_option linter.unusedVariables false
set_option linter.unusedSimpArgs false
/-- the example in memory -/
structure LM (w wx : World) : Prop where
  below : Below w.heap.size w wx
  box : Blk wx (w.heap.size + 1) 26 #[.int .i64 2, .slice none 0 0, .slice (some ⟨w.heap.size, 0, none⟩) 1 1, .slice none 0 0]
  an : Rd wx 2 (some ⟨w.heap.size, 0, none⟩) 1 1 (pc [(2, 4)])
theorem LM.keep {w wx wy : World} (h : LM w wx) (hb : Below wx.heap.size wx wy) : LM w wy := ⟨below_then h.below hb, h.box.keep hb, h.an.later hb⟩
theorem LM.in_ {w wx : World} (h : LM w wx) : (G0 (some ⟨w.heap.size, 0, none⟩)).In wx := ⟨Rd.none0 _ _ _ _ (fun _ => rfl), h.an, Rd.none0 _ _ _ _ (fun _ => rfl)⟩
theorem g0_wf (AA : Option Addr) : (G0 AA).wf := ⟨fun x hx => (by cases hx), fun x hx => (by
  have h : x = (2, 4) := by simpa [G0] using hx
  subst h; decide), fun x hx => (by cases hx)⟩
theorem g0_may (AA : Option Addr) : (G0 AA).may 4 := ⟨g0_ok AA, by decide, by decide⟩
def liveSt : List (List PC) × List Int := ([[([], 0)], [([1], 2)], [([2], 2)], [([1, 2], 8), ([3], 2)]], [0, 0, 0, 1])
theorem live_all (w W : World) (h : LM w W) (hc : COLS w) : Calls Tryd.prog 20 #[.agg #[.int .i64 2, .slice none 0 0, .slice (some ⟨w.heap.size, 0, none⟩) 1 1, .slice none 0 0], .int .i64 4] W fun e w' => ∃ AO cO rs AD cD, e = .returned (.tuple #[.slice AO (rs : List CR).length cO, .int .i64 0]) ∧ BothSt liveSt W AO cO rs AD cD w' := by
  have h1 := call_any (G0 (some ⟨w.heap.size, 0, none⟩)) 4 W h.in_ (g0_fit _) (g0_wf _) (hc.below h.below)
  refine (show Calls Tryd.prog 20 #[.agg #[.int .i64 2, .slice none 0 0, .slice (some ⟨w.heap.size, 0, none⟩) 1 1, .slice none 0 0], .int .i64 4] W _ from h1).mono fun e w' ⟨h2, _⟩ => ?_
  have h3 := h2 (g0_may _)
  rw [show (G0 (some ⟨w.heap.size, 0, none⟩)).cn - 1 = 3 from rfl, g0_both] at h3
  exact h3
theorem live_dep (w W : World) (h : LM w W) (hc : COLS w) : Calls Tryd.prog 22 #[.agg #[.int .i64 2, .slice none 0 0, .slice (some ⟨w.heap.size, 0, none⟩) 1 1, .slice none 0 0], .int .i64 4] W fun e w' => ∃ AO cO rs AD cD, e = .returned (.tuple #[.slice AD 4 cD, .int .i64 0]) ∧ BothSt liveSt W AO cO rs AD cD w' := by
  have h1 := cdepths_any (G0 (some ⟨w.heap.size, 0, none⟩)) 4 W h.in_ (g0_fit _) (g0_wf _) (hc.below h.below)
  refine (show Calls Tryd.prog 22 #[.agg #[.int .i64 2, .slice none 0 0, .slice (some ⟨w.heap.size, 0, none⟩) 1 1, .slice none 0 0], .int .i64 4] W _ from h1).mono fun e w' ⟨h2, _⟩ => ?_
  have h3 := h2 (g0_may _)
  rw [show (G0 (some ⟨w.heap.size, 0, none⟩)).cn - 1 = 3 from rfl, g0_both] at h3
  exact h3
theorem live_tab12 (w W : World) (h : LM w W) (hc : COLS w) (A : Option Addr) (c : Nat) (hr : Rd W 1 A 2 c (ints [1, 2])) : Calls Tryd.prog 13 #[.agg #[.int .i64 2, .slice none 0 0, .slice (some ⟨w.heap.size, 0, none⟩) 1 1, .slice none 0 0], .int .i64 3, .slice A 2 c] W fun e w' => e = .returned (.tuple #[.int .u64 8, .int .i64 0]) ∧ Below W.heap.size W w' := by
  have h1 := ctbl_any (G0 (some ⟨w.heap.size, 0, none⟩)) A c [1, 2] 3 W h.in_ (g0_fit _) (g0_wf _) hr (by decide) (hc.below h.below)
  rw [g0_good12] at h1
  exact h1
theorem live_tab1 (w W : World) (h : LM w W) (hc : COLS w) (A : Option Addr) (c : Nat) (hr : Rd W 1 A 1 c (ints [1])) : Calls Tryd.prog 13 #[.agg #[.int .i64 2, .slice none 0 0, .slice (some ⟨w.heap.size, 0, none⟩) 1 1, .slice none 0 0], .int .i64 3, .slice A 1 c] W fun e w' => e = .returned (.tuple #[.int .u64 0, .int .i64 1]) ∧ Below W.heap.size W w' := by
  have h1 := ctbl_any (G0 (some ⟨w.heap.size, 0, none⟩)) A c [1] 3 W h.in_ (g0_fit _) (g0_wf _) hr (by decide) (hc.below h.below)
  rw [g0_good1] at h1
  exact h1
theorem live_chk (w W : World) (h : LM w W) (hc : COLS w) (A : Option Addr) (c t : Nat) (hr : Rd W 1 A 2 c (ints [1, 2])) : Calls Tryd.prog 17 #[.agg #[.int .i64 2, .slice none 0 0, .slice (some ⟨w.heap.size, 0, none⟩) 1 1, .slice none 0 0], .int .i64 3, .agg #[.slice A 2 c, .int .u64 (t : Int)]] W fun e w' => e = .returned (.int .i64 (cutE (some 8) t)) ∧ Below W.heap.size W w' := by
  have h1 := ccheck24_any (G0 (some ⟨w.heap.size, 0, none⟩)) A c [1, 2] 3 t W h.in_ (g0_fit _) (g0_wf _) hr (by decide) (hc.below h.below)
  rw [g0_good12] at h1
  exact h1
theorem live_chk8 (w W : World) (h : LM w W) (hc : COLS w) (A : Option Addr) (c : Nat) (hr : Rd W 1 A 2 c (ints [1, 2])) : Calls Tryd.prog 17 #[.agg #[.int .i64 2, .slice none 0 0, .slice (some ⟨w.heap.size, 0, none⟩) 1 1, .slice none 0 0], .int .i64 3, .agg #[.slice A 2 c, .int .u64 8]] W fun e w' => e = .returned (.int .i64 0) ∧ Below W.heap.size W w' := live_chk w W h hc A c 8 hr
theorem live_chk7 (w W : World) (h : LM w W) (hc : COLS w) (A : Option Addr) (c : Nat) (hr : Rd W 1 A 2 c (ints [1, 2])) : Calls Tryd.prog 17 #[.agg #[.int .i64 2, .slice none 0 0, .slice (some ⟨w.heap.size, 0, none⟩) 1 1, .slice none 0 0], .int .i64 3, .agg #[.slice A 2 c, .int .u64 7]] W fun e w' => e = .returned (.int .i64 1) ∧ Below W.heap.size W w' := live_chk w W h hc A c 7 hr
theorem live_mrg (W : World) (A B : Option Addr) (c d : Nat) (ha : Rd W 1 A 2 c (ints [1, 3])) (hb : Rd W 1 B 2 d (ints [2, 3])) : Calls Tryd.prog 15 #[.slice A 2 c, .slice B 2 d, .int .i64 3] W (MrgOut (some [1, 2, 3]) W) := by
  have h1 := cmerge_any A B c d [1, 3] [2, 3] 3 W ha hb (by decide) (by decide)
  rw [merge_13] at h1
  exact h1
theorem live_mrg2 (W : World) (A B : Option Addr) (c d : Nat) (ha : Rd W 1 A 2 c (ints [1, 3])) (hb : Rd W 1 B 2 d (ints [2, 3])) : Calls Tryd.prog 15 #[.slice A 2 c, .slice B 2 d, .int .i64 2] W (MrgOut none W) := by
  have h1 := cmerge_any A B c d [1, 3] [2, 3] 2 W ha hb (by decide) (by decide)
  rw [merge_132] at h1
  exact h1
/-- the last row of the example -/
theorem live_row {rs : List CR} (h : plainR rs = liveSt.1) : ∃ (hl : rs.length = 4) (l0 l1 : SL), l0.2.2 = [1, 2] ∧ l1.2.2 = [3] ∧ rs[3].2.2 = [(l0, 8), (l1, 2)] := by
  have hl : rs.length = 4 := by have e := congrArg List.length h; rw [plainR_len] at e; exact e
  have h3 : pcs rs[3].2.2 = [([1, 2], 8), ([3], 2)] := by
    have e := congrArg (fun l : List (List PC) => l[3]?) h
    simp only [plainR, List.getElem?_map, List.getElem?_eq_getElem (show 3 < rs.length by omega), Option.map_some] at e
    exact Option.some.inj e
  obtain ⟨cs, hcs⟩ : ∃ cs, rs[3].2.2 = cs := ⟨_, rfl⟩
  rw [hcs] at h3
  match cs, hcs, h3 with
  | [c0, c1], hcs, h3 =>
    simp only [pcs, List.map_cons, List.map_nil, List.cons.injEq, Prod.mk.injEq, and_true] at h3
    obtain ⟨⟨a1, a2⟩, b1, b2⟩ := h3
    refine ⟨hl, c0.1, c1.1, a1, b1, ?_⟩
    rw [hcs, ← a2, ← b2]
  | [], hcs, h3 => simp [pcs] at h3
  | [_], hcs, h3 => simp [pcs] at h3
  | _ :: _ :: _ :: _, hcs, h3 => simp [pcs] at h3
/-- what the last line of live reads -/
theorem live_cells {W : World} {AO : Option Addr} {cO : Nat} {rs : List CR} {l0 l1 : SL} (h : RowsR W AO cO rs) (hl : rs.length = 4) (hrow : rs[3].2.2 = [(l0, 8), (l1, 2)]) : ∃ (po pr : Addr) (cr : Nat), AO = some po ∧ po.block < W.heap.size ∧ pr.block < W.heap.size ∧ W.cell? (po.add 3) = some (.slice (some pr) 2 cr) ∧ W.cell? pr = some (slv l0) ∧ W.cell? ⟨pr.block, pr.off + 1, none⟩ = some (.int .u64 8) ∧ W.cell? ⟨(pr.add 2).block, (pr.add 2).off + 1, none⟩ = some (.int .u64 2) ∧ SLIn W l0 := by
  obtain ⟨po, e, hb, hc, hin⟩ := h.at_ (k := 3) (by omega)
  generalize rs[3] = r at hrow hc hin
  obtain ⟨A, c, cs⟩ := r
  simp only at hrow hin
  subst hrow
  obtain ⟨pr, e1, hb1, g0, g1, hs⟩ := hin.at_ (k := 0) (show 0 < 2 by decide)
  obtain ⟨pr2, e2, hb2, k0, k1, hs2⟩ := hin.at_ (k := 1) (show 1 < 2 by decide)
  subst e1
  obtain rfl : pr = pr2 := Option.some.inj e2
  exact ⟨po, pr, c, e, hb, hb1, hc, g0, g1, k1, hs⟩
set_option maxRecDepth 100000 in
set_option maxHeartbeats 8000000 in
theorem live24_any (w : World) (hcols : COLS w) : Calls Tryd.prog 11 #[] w fun r w' => r = .returned (.bool true) ∧ Below w.heap.size w w' := by
  have HC := Lib.hid hcols
  have L1 := Lib.hid (show LM w ((w.alloc (.cells #[.int .i64 2, .int .i64 4] 50)).alloc (.cells #[.int .i64 2, .slice none 0 0, .slice (some ⟨w.heap.size, 0, none⟩) 1 1, .slice none 0 0] 26)) from
    ⟨below_then (below_new _ _) (below_new _ _), blk_made1 w _ _ _, rd_of_blk (cs := pc [(2, 4)]) ((Blk.made w 50 #[.int .i64 2, .int .i64 4]).alloc _) 2 1 rfl⟩)
  clear hcols
  go_enter Tryd.func11, Tryd.ntmps11
  go_upto_region 2 with (fail)
  generalize (w.alloc (.cells #[.int .i64 2, .int .i64 4] 50)).alloc (.cells #[.int .i64 2, .slice none 0 0, .slice (some ⟨w.heap.size, 0, none⟩) 1 1, .slice none 0 0] 26) = w1 at L1 ⊢
  have c0 := L1.out.box.cell 0
  have c1 := L1.out.box.cell 1
  have c2 := L1.out.box.cell 2
  have c3 := L1.out.box.cell 3
  go_wp2_with fail
  refine (live_all w w1 L1.out HC.out).mono ?_
  rintro e w2 ⟨AO, cO, rs, AX, cX, rfl, hst2⟩
  have L2 := Lib.hid (L1.out.keep hst2.1)
  have R2 := Lib.hid hst2.2.1
  obtain ⟨hl4, l0, l1, hl0, hl1, hrow⟩ := live_row hst2.2.2
  rw [hl4]
  have HL4 := Lib.hid hl4
  have HROW := Lib.hid hrow
  clear hst2 c0 c1 c2 c3 hrow
  have c0 := L2.out.box.cell 0
  have c1 := L2.out.box.cell 1
  have c2 := L2.out.box.cell 2
  have c3 := L2.out.box.cell 3
  go_wp2_with fail
  refine (live_dep w w2 L2.out HC.out).mono ?_
  rintro e w3 ⟨AY, cY, rs3, AD, cD, rfl, hst3⟩
  have L3 := Lib.hid (L2.out.keep hst3.1)
  have R3 := Lib.hid (R2.out.keep hst3.1)
  have D3 := Lib.hid (Rd.of_own hst3.2.1.dep)
  clear hst3 c0 c1 c2 c3
  have c0 := L3.out.box.cell 0
  have c1 := L3.out.box.cell 1
  have c2 := L3.out.box.cell 2
  have c3 := L3.out.box.cell 3
  have T1 := Lib.hid (live_tab12 w _ (L3.out.keep (below_new w3 (.cells #[.int .i64 1, .int .i64 2] 3))) HC.out _ 2 (rd_new w3 3 [.int .i64 1, .int .i64 2]))
  go_wp2_with fail
  refine T1.out.mono ?_
  rintro e w4 ⟨rfl, hb4⟩
  have B34 := Lib.hid (below_then (below_new w3 (.cells #[.int .i64 1, .int .i64 2] 3)) hb4)
  have L4 := Lib.hid (L3.out.keep B34.out)
  clear hb4 c0 c1 c2 c3 T1
  have c0 := L4.out.box.cell 0
  have c1 := L4.out.box.cell 1
  have c2 := L4.out.box.cell 2
  have c3 := L4.out.box.cell 3
  have T1 := Lib.hid (live_tab1 w _ (L4.out.keep (below_new w4 (.cells #[.int .i64 1] 3))) HC.out _ 1 (rd_new w4 3 [.int .i64 1]))
  go_wp2_with fail
  refine T1.out.mono ?_
  rintro e w5 ⟨rfl, hb5⟩
  have B35 := Lib.hid (below_then B34.out (below_then (below_new w4 (.cells #[.int .i64 1] 3)) hb5))
  clear hb5 c0 c1 c2 c3 T1
  have M1 := Lib.hid (live_mrg ((w5.alloc (.cells #[.int .i64 1, .int .i64 3] 3)).alloc (.cells #[.int .i64 2, .int .i64 3] 3)) (some ⟨w5.heap.size, 0, none⟩) (some ⟨w5.heap.size + 1, 0, none⟩) 2 2 (rd_of_blk (cs := ints [1, 3]) ((Blk.made w5 3 #[.int .i64 1, .int .i64 3]).alloc _) 1 2 rfl) (rd_of_blk (cs := ints [2, 3]) (blk_made1 w5 _ 3 #[.int .i64 2, .int .i64 3]) 1 2 rfl))
  go_wp2_with fail
  refine M1.out.mono ?_
  rintro e w6 ⟨A6, c6, rfl, hb6, hown6⟩
  have B36 := Lib.hid (below_then B35.out (below_then (below_then (below_new w5 (.cells #[.int .i64 1, .int .i64 3] 3)) (below_new _ (.cells #[.int .i64 2, .int .i64 3] 3))) hb6))
  have R6 := Lib.hid (Rd.of_own hown6)
  clear hb6 hown6 M1
  have M1 := Lib.hid (live_mrg2 ((w6.alloc (.cells #[.int .i64 1, .int .i64 3] 3)).alloc (.cells #[.int .i64 2, .int .i64 3] 3)) (some ⟨w6.heap.size, 0, none⟩) (some ⟨w6.heap.size + 1, 0, none⟩) 2 2 (rd_of_blk (cs := ints [1, 3]) ((Blk.made w6 3 #[.int .i64 1, .int .i64 3]).alloc _) 1 2 rfl) (rd_of_blk (cs := ints [2, 3]) (blk_made1 w6 _ 3 #[.int .i64 2, .int .i64 3]) 1 2 rfl))
  go_wp2_with fail
  refine M1.out.mono ?_
  rintro e w7 ⟨A7, c7, rfl, hb7, -⟩
  have HB7 := Lib.hid hb7
  have B37 := Lib.hid (below_then B36.out (below_then (below_then (below_new w6 (.cells #[.int .i64 1, .int .i64 3] 3)) (below_new _ (.cells #[.int .i64 2, .int .i64 3] 3))) hb7))
  clear hb7 M1
  go_upto_region 8 with (fail)
  have RW := Lib.hid (R3.out.keep B37.out).rows
  have LW := Lib.hid (L3.out.keep B37.out)
  have D7 := Lib.hid (D3.out.later B37.out)
  have R7 := Lib.hid (R6.out.later (below_then (below_then (below_new w6 (.cells #[.int .i64 1, .int .i64 3] 3)) (below_new _ (.cells #[.int .i64 2, .int .i64 3] 3))) HB7.out))
  obtain ⟨po, pr, cr, hAO, hpb, hrb, q0, q1, q2, q3, q4⟩ := live_cells RW.out HL4.out HROW.out
  obtain ⟨pd, hAD, hdb, d0⟩ := D7.out.int (l := liveSt.2) (k := 3) (show 3 < 4 by decide)
  obtain ⟨p6, hA6, h6b, m0⟩ := R7.out.int (l := [1, 2, 3]) (k := 2) (show 2 < 3 by decide)
  subst hAO hAD hA6
  obtain ⟨b1, b2, b3⟩ := l0
  simp only at hl0
  subst hl0
  simp only [slv] at q1
  have Q4 := Lib.hid q4
  clear q4
  replace q0 : w7.cell? ⟨po.block, po.off + 3, none⟩ = some (.slice (some pr) 2 cr) := q0
  replace q3 : w7.cell? ⟨pr.block, pr.off + 2 + 1, none⟩ = some (.int .u64 2) := q3
  replace d0 : w7.cell? ⟨pd.block, pd.off + 3, none⟩ = some (.int .i64 1) := d0
  replace m0 : w7.cell? ⟨p6.block, p6.off + 2, none⟩ = some (.int .i64 3) := m0
  have q3' : w7.cell? ⟨pr.block, pr.off + 3, none⟩ = some (.int .u64 2) := q3
  go_upto_region 10 with (fail)
  replace q1 : w7.cell? pr = some (.slice b1 2 b2) := q1
  have H8 := Lib.hid (fun (W : World) (h : Below w7.heap.size w7 W) => live_chk8 w W (LW.out.keep h) HC.out b1 b2 (Rd.later Q4.out h))
  have H7 := Lib.hid (fun (W : World) (h : Below w7.heap.size w7 W) => live_chk7 w (W.alloc (.cells #[.int .i64 1, .int .i64 2] 3)) ((LW.out.keep h).keep (below_new W _)) HC.out (some ⟨W.heap.size, 0, none⟩) 2 (rd_new W 3 [.int .i64 1, .int .i64 2]))
  have hpb3 : (⟨po.block, po.off + 3, none⟩ : Addr).block < w7.heap.size := hpb
  have hrb1 : (⟨pr.block, pr.off + 1, none⟩ : Addr).block < w7.heap.size := hrb
  have hrb3 : (⟨pr.block, pr.off + 3, none⟩ : Addr).block < w7.heap.size := hrb
  have hdb3 : (⟨pd.block, pd.off + 3, none⟩ : Addr).block < w7.heap.size := hdb
  have h6b2 : (⟨p6.block, p6.off + 2, none⟩ : Addr).block < w7.heap.size := h6b
  have j6 := LW.out.box.cell 0
  have j7 := LW.out.box.cell 1
  have j8 := LW.out.box.cell 2
  have j9 := LW.out.box.cell 3
  have K8 := Lib.hid (live_chk8 w w7.drew (LW.out.keep (below_drewN (Below.refl w7.heap.size w7) 1)) HC.out b1 b2 (Rd.later Q4.out (below_drewN (Below.refl w7.heap.size w7) 1)))
  dsimp only [List.append]
  go_region_held3 (fun w' => w'.cell? ⟨po.block, po.off + 3, none⟩ = some (.slice (some pr) 2 cr) ∧ w'.cell? pr = some (.slice b1 2 b2) ∧ w'.cell? ⟨pr.block, pr.off + 1, none⟩ = some (.int .u64 8) ∧ w'.cell? ⟨pr.block, pr.off + 3, none⟩ = some (.int .u64 2) ∧ w'.cell? ⟨pd.block, pd.off + 3, none⟩ = some (.int .i64 1) ∧ w'.cell? ⟨p6.block, p6.off + 2, none⟩ = some (.int .i64 3) ∧ w'.cell? ⟨w.heap.size + 1, 0, none⟩ = some (.int .i64 2) ∧ w'.cell? ⟨w.heap.size + 1, 1, none⟩ = some (.slice none 0 0) ∧ w'.cell? ⟨w.heap.size + 1, 2, none⟩ = some (.slice (some ⟨w.heap.size, 0, none⟩) 1 1) ∧ w'.cell? ⟨w.heap.size + 1, 3, none⟩ = some (.slice none 0 0)) (go_keep) ((first | (go_at_call 17; (with_reducible refine (K8.out).mono ?_); rintro e8 w8 ⟨rfl, hb8⟩; have hb8 : Below w7.heap.size w7 w8 := below_of_drew hb8; have B8 := Lib.hid (hb8); have X8 := LW.out.keep B8.out; have j0 := (B8.out.cell (p := ⟨po.block, po.off + 3, none⟩) hpb3).trans q0; have j1 := (B8.out.cell (p := pr) hrb).trans q1; have j2 := (B8.out.cell (p := ⟨pr.block, pr.off + 1, none⟩) hrb1).trans q2; have j3 := (B8.out.cell (p := ⟨pr.block, pr.off + 3, none⟩) hrb3).trans q3'; have j4 := (B8.out.cell (p := ⟨pd.block, pd.off + 3, none⟩) hdb3).trans d0; have j5 := (B8.out.cell (p := ⟨p6.block, p6.off + 2, none⟩) h6b2).trans m0; have j6 := X8.box.cell 0; have j7 := X8.box.cell 1; have j8 := X8.box.cell 2; have j9 := X8.box.cell 3; clear hb8 X8) | (go_at_call 17; (with_reducible refine (H7.out _ ?_).mono ?_); (· exact B8.out); rintro e9 w9 ⟨rfl, hb9⟩; have B9 := Lib.hid (below_then B8.out (below_then (below_new w8 _) hb9)); have X9 := LW.out.keep B9.out; have j0 := (B9.out.cell (p := ⟨po.block, po.off + 3, none⟩) hpb3).trans q0; have j1 := (B9.out.cell (p := pr) hrb).trans q1; have j2 := (B9.out.cell (p := ⟨pr.block, pr.off + 1, none⟩) hrb1).trans q2; have j3 := (B9.out.cell (p := ⟨pr.block, pr.off + 3, none⟩) hrb3).trans q3'; have j4 := (B9.out.cell (p := ⟨pd.block, pd.off + 3, none⟩) hdb3).trans d0; have j5 := (B9.out.cell (p := ⟨p6.block, p6.off + 2, none⟩) h6b2).trans m0; have j6 := X9.box.cell 0; have j7 := X9.box.cell 1; have j8 := X9.box.cell 2; have j9 := X9.box.cell 3; clear hb9 X9)))
  all_goals (first | go_ret | (go_wp2_with fail; go_ret))
  all_goals exact ⟨rfl, below_then L3.out.below (below_then B37.out B9.out)⟩
end Go.Proofs.YtkhlllbceceikaaDoor
