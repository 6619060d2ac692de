/- filigree/lutmap.rows; what slices.Backward yields at []bool; lutmap.bit, picked. · slices.Grow, slices.Concat at []bool. · filigree/lutmap.picked, lutmap.values: what the nodes of a net are. -/
import Derived.RangeFuncBox
import Derived.RangeFuncLeaves
import Derived.RangeFuncWrites
import Derived.Shelf.Abstract
import Derived.WalkKit
import Derived.OwnWalkIn
import Derived.TacticsInMore
import Derived.LoopNIn
import Derived.LoopIn
import Derived.RegionIn
import Derived.BigQuiet
import Derived.Deep.RegionHeld3
import Derived.Deep.RegionWith
import Derived.Deep.QuietTactic
import Derived.Test.YtaajnmggbhnndaaGreatDoorZNet
import Derived.Test.YtaajnmggbhnndaaGreatDoorZMem
import Derived.Lib.AppendZerosOnto
import Derived.Lib.Walk
import Derived.Lib.SliceRun
namespace Go.Proofs.YtaajnmggbhnndaaGreatDoor
open Go.RowKit Go.Shelf
set_option linter.unusedVariables false
set_option linter.unusedSimpArgs false
attribute [local go_sem] Oper.semAt_some
set_option maxRecDepth 100000 in
theorem lrows_any (n : Nat) (w : World) (hn : n ≤ 6) :
    Calls Tryz.prog 20 #[.int .i64 (n : Int)] w fun r w' => r = .returned (.int .u64 (Cut.rows n : Int)) ∧ w = w' := by
  rcases (show n = 0 ∨ n = 1 ∨ n = 2 ∨ n = 3 ∨ n = 4 ∨ n = 5 ∨ n = 6 by omega) with rfl | rfl | rfl | rfl | rfl | rfl | rfl
  all_goals
    go_enter Tryz.func20, Tryz.ntmps20
    go_wp2_with fail
    go_ret
    exact ⟨rfl, rfl⟩
theorem backward_any (A : Option Addr) (n c : Nat) (w : World) :
    Calls Tryz.prog 54 #[.slice A n c] w fun e w' => e = .returned (.func (.func 70) #[] #[.pointer (some ⟨w.heap.size, 0, none⟩)]) ∧ w' = w.alloc (.cells #[.slice A n c] 42) := by
  have hmf : ∀ (fn : Fn) (first cap : Array Value) (w : World), (Instr.makeFunc fn first cap).run Tryz.prog w = .ok (.func fn first cap) w := fun _ _ _ _ => rfl
  go_enter Tryz.func54, Tryz.ntmps54
  go_wp2_with fail
  go_ret
  exact ⟨rfl, rfl⟩
/-- what a round must keep: all that was there, but for the block R -/
def KR (B R : Nat) (W W' : World) : Prop := ∀ k, k < B → k ≠ R → W'.heap[k]? = W.heap[k]?
theorem KR.trans {B R : Nat} {X Y Z : World} (h : KR B R X Y) (k : KR B R Y Z) : KR B R X Z := fun j hj hn => (k j hj hn).trans (h j hj hn)
theorem KR.put {B R : Nat} {w : World} (hB : B ≤ w.heap.size) (W : World) (l : Nat) (o o' : Obj) (hl : w.heap.size ≤ l) (_ : W.heap[l]? = some o) (_ : o.isCells = false) (_ : o.isWalk = false) : KR B R W (W.putObj l o') :=
  fun k hk _ => World.putObj_heap_other (by omega)
theorem KR.cell {B R : Nat} {W W' : World} (h : KR B R W W') {p : Addr} (hp : p.block < B) (hr : p.block ≠ R) : W'.cell? p = W.cell? p := by
  unfold World.cell?
  rw [h _ hp hr]
theorem boxed_below {wx wy : World} {b : Nat} {t : TypeId} {v : Value} (h : Boxed wx b t v) (hb : Below wx.heap.size wx wy) : Boxed wy b t v := (hb.block b h.lt).trans h
/-- what is yielded: from the last one on -/
def bkE (l : List Bool) (q : Nat) : Array Value := #[.int .i64 ((l.length : Int) - 1 - (q : Int)), .bool (l.getD (l.length - 1 - q) false)]
set_option maxRecDepth 100000 in
set_option maxHeartbeats 2000000 in
theorem backward1 (m : Nat) (hm : 1 ≤ m) (R : Nat) (A : Option Addr) (c : Nat) (l : List Bool) (hn : l.length ≤ 100000000) (w : World) (hBs : Boxed w (R + 1) 42 (.slice A l.length c)) (hr : Rd w 1 A l.length c (bools l)) (hA : ∀ a, A = some a → 0 < l.length → a.block < R) (hw : R + 2 ≤ w.heap.size) :
    SeqStopsK Fence.wide m Tryz.prog 70 #[.pointer (some ⟨R + 1, 0, none⟩)] (fun q : Nat => bkE l q) (KR (R + 2) R) (fun ys => ys = List.range l.length) (fun _ => True) l.length w := by
  intro lb J Jx W hW hJ hJx hY h0
  refine callsIn_of_wp Tryz.func70 rfl trivial ?_ rfl
  simp only [Tryz.ntmps70, List.size_toArray, List.length_cons, List.length_nil, Nat.reduceAdd, Nat.reduceSub, Array.replicate_succ, Array.replicate_zero, List.push_toArray, List.append_toArray, List.nil_append, List.cons_append]
  obtain ⟨n, hnn⟩ : ∃ n, l.length = n := ⟨_, rfl⟩
  have HN := Lib.hid hnn
  have X1 := Lib.hid (boxed_below hBs hW)
  have RD := Lib.hid (hr.later hW)
  have HAL := Lib.hid hA
  rw [hnn] at X1 RD hn hY ⊢
  have b1 := X1.out.cell
  have HY := Lib.hid hY
  have HJ := Lib.hid hJ
  clear hW hY hJ hJx hBs hr hA hnn
  gi_wp2
  gi_loopw [3] (fun i wr => ∃ q : Nat, q ≤ n ∧ i = .int .i64 ((n : Int) - 1 - (q : Int)) ∧ J (List.range q) wr ∧ KR (R + 2) R W wr) (fun i _ => (intOf i + 1).toNat)
  case atStart => exact ⟨0, by omega, by simp, h0, fun _ _ _ => rfl⟩
  case round =>
    obtain ⟨q, hq, rfl, hJs, hnx⟩ := hrel
    have HNX := Lib.hid hnx
    have HJS := Lib.hid hJs
    have d1 : wr.cell? ⟨R + 1, 0, none⟩ = some (.slice A n c) := (hnx.cell (by show R + 1 < R + 2; omega) (by show R + 1 ≠ R; omega)).trans X1.out.cell
    clear hnx hJs b1
    by_cases hlt : q < n
    · obtain ⟨j, hj⟩ : ∃ j, n - 1 - q = j := ⟨_, rfl⟩
      have hji : (n : Int) - 1 - (q : Int) = (j : Int) := by omega
      have hjn : (j : Int) < (n : Int) := by omega
      obtain ⟨a, hAa, hab, c0⟩ := RD.out.bool (k := j) (by omega)
      have hblk := HAL.out a hAa (by rw [HN.out]; omega)
      subst hAa
      have c1 := (HNX.out.cell (p := a.add j) (by rw [add_block]; omega) (by rw [add_block]; omega)).trans c0
      have hyk := HY.out (List.range q) q wr HJS.out (by rw [List.length_range]; exact hlt)
      have hbe : bkE l q = #[.int .i64 (j : Int), .bool (l.getD j false)] := by unfold bkE; rw [HN.out, hji, hj]
      rw [hbe] at hyk
      obtain ⟨fn, tmps, assign, body, hy, hR⟩ := hyk
      clear hbe c0 hblk hj
      rw [hji]
      generalize l.getD j false = x at c1 hy hR
      have hrs : List.range q ++ [q] = List.range (q + 1) := List.range_succ.symm
      have HRS := Lib.hid hrs
      have hj1 : (n : Int) - 1 - ((q + 1 : Nat) : Int) = (j : Int) - 1 := by omega
      have HJ1 := Lib.hid hj1
      clear hrs hj1 hji
      gi_wp2
      refine hR.mono ?_
      rintro e W3 (⟨rfl, hJ3, hk3⟩ | ⟨rfl, hJx3⟩)
      · have HK3 := Lib.hid hk3
        have HJ3 := Lib.hid hJ3
        clear hk3 hJ3
        gi_wp2
        go_roundw
        case rel => exact ⟨q + 1, by omega, by first | (rw [HJ1.out]; done) | (rw [HJ1.out]; go_num), by rw [← HRS.out]; exact HJ3.out, HNX.out.trans HK3.out⟩
        case measure => first | (simp [intOf]; done) | (simp [intOf]; omega)
      · gi_wp2
        refine bodyPost_ret (results_none rfl _ _ _) rfl ?_
        exact ⟨⟨_, rfl⟩, .inr ⟨_, trivial, hJx3⟩⟩
    · obtain rfl : q = n := by omega
      have he : (q : Int) - 1 - (q : Int) = -1 := by omega
      rw [he]
      gi_wp2
      go_end0
      exact ⟨⟨_, rfl⟩, .inl ⟨_, rfl, HJS.out⟩⟩
/-- the row, when so many are yielded -/
def bkR (l : List Bool) (pre : List Nat) : Nat := pre.foldl (fun s q => 2 * s + (l.getD (l.length - 1 - q) false).toNat) 0
theorem bkR_snoc (l : List Bool) (pre : List Nat) (q : Nat) : bkR l (pre ++ [q]) = 2 * bkR l pre + (l.getD (l.length - 1 - q) false).toNat := by
  unfold bkR; rw [List.foldl_append]; rfl
theorem bkR_from (l : List Bool) : ∀ (pre : List Nat) (s : Nat), pre.foldl (fun s q => 2 * s + (l.getD (l.length - 1 - q) false).toNat) s < (s + 1) * 2 ^ pre.length
  | [], s => by simp
  | q :: pre, s => by
    have ih := bkR_from l pre (2 * s + (l.getD (l.length - 1 - q) false).toNat)
    have hb : (l.getD (l.length - 1 - q) false).toNat ≤ 1 := by cases l.getD (l.length - 1 - q) false <;> simp
    rw [List.foldl_cons, List.length_cons, Nat.pow_succ]
    refine Nat.lt_of_lt_of_le ih ?_
    have h2 : (2 * s + (l.getD (l.length - 1 - q) false).toNat + 1) * 2 ^ pre.length ≤ (2 * (s + 1)) * 2 ^ pre.length := Nat.mul_le_mul_right _ (by omega)
    have e : (s + 1) * (2 ^ pre.length * 2) = (2 * (s + 1)) * 2 ^ pre.length := by rw [Nat.mul_comm (2 ^ pre.length) 2, ← Nat.mul_assoc, Nat.mul_comm (s + 1) 2]
    omega
theorem bkR_lt (l : List Bool) (pre : List Nat) : bkR l pre < 2 ^ pre.length := by
  have := bkR_from l pre 0
  unfold bkR
  omega
theorem bkR_all (l : List Bool) : ∀ q, q ≤ l.length → bkR l (List.range q) = rowB (l.drop (l.length - q))
  | 0, _ => by simp [bkR, rowB]
  | q + 1, h => by
    rw [List.range_succ, bkR_snoc, bkR_all l q (by omega)]
    have hk : l.length - (q + 1) < l.length := by omega
    rw [List.drop_eq_getElem_cons hk, rowB, show l.length - (q + 1) + 1 = l.length - q by omega]
    have e : l.getD (l.length - 1 - q) false = l[l.length - (q + 1)] := by
      rw [show l.length - 1 - q = l.length - (q + 1) by omega, List.getD_eq_getElem?_getD, List.getElem?_eq_getElem hk]; rfl
    rw [e]; omega
theorem boxed_ownR {wx wy : World} {b : Nat} {t : TypeId} {v : Value} {row : Option Nat} (h : Boxed wx b t v) (hg : wx.grownBy wy row) (hr : ∀ r, row = some r → ∃ o : Obj, wx.heap[r]? = some o ∧ o.isCells = false) : Boxed wy b t v := by
  refine h.kept hg fun e => ?_
  obtain ⟨o, ho, hc⟩ := hr b e.symm
  have hh : wx.heap[b]? = some (.cells #[v] t (0, 0)) := h
  rw [hh] at ho
  obtain rfl := Option.some.inj ho
  cases hc
theorem boxed_cell {w : World} {b : Nat} {t : TypeId} {v : Value} (h : Boxed w b t v) : w.cell? ⟨b, 0, none⟩ = some v := h.cell
set_option maxRecDepth 100000 in
set_option maxHeartbeats 4000000 in
theorem bit_any (A : Option Addr) (c : Nat) (bs : List Bool) (t : Nat) (w : World) (hr : Rd w 1 A bs.length c (bools bs)) (hn : bs.length ≤ 6) (ht : t < 18446744073709551616) :
    Calls Tryz.prog 42 #[.int .u64 (t : Int), .slice A bs.length c] w fun r w' => r = .returned (.bool (bitB t bs)) ∧ Below w.heap.size w w' := by
  have hAlt : ∀ a, A = some a → 0 < bs.length → a.block < w.heap.size := fun a ha h0 => by
    obtain ⟨a2, e, hb, -⟩ := hr.bool h0
    rw [ha] at e; cases e; exact hb
  have B0 := Lib.hid (below_new w (.cells #[.int .i64 0] 3))
  have hz1 := Boxed.new w 3 (.int .i64 0)
  have hz2 := Boxed.new (w.alloc (.cells #[.int .i64 0] 3)) 42 (.slice A bs.length c)
  rw [World.size_alloc] at hz2
  have B8 := Lib.hid (below_then B0.out (below_new _ (.cells #[.slice A bs.length c] 42)))
  have Z1 := Lib.hid (boxed_below hz1 (below_new _ (.cells #[.slice A bs.length c] 42)))
  have Z2 := Lib.hid hz2
  have R8 := Lib.hid (hr.later B8.out)
  have HS := Lib.hid (show ((w.alloc (.cells #[.int .i64 0] 3)).alloc (.cells #[.slice A bs.length c] 42)).heap.size = w.heap.size + 2 by simp)
  clear hz1 hz2 hr
  refine (callsIn_wide (n := 9)).1 (callsIn_of_wp_marks Tryz.func42 rfl trivial ?_ rfl)
  simp only [Tryz.ntmps42, List.size_toArray, List.length_cons, List.length_nil, Nat.reduceAdd, Nat.reduceSub, Array.replicate_succ, Array.replicate_zero, List.push_toArray, List.append_toArray, List.nil_append, List.cons_append]
  refine wpIn_wide.2 ?_
  go_wp2_with fail
  refine (backward_any A bs.length c _).mono ?_
  rintro e w2 ⟨rfl, hw2⟩
  rw [← hw2] at B8 Z1 Z2 R8 HS
  rw [World.size_alloc]
  clear hw2
  obtain ⟨n, hnn⟩ : ∃ n, bs.length = n := ⟨_, rfl⟩
  have HN := Lib.hid hnn
  have HAL := Lib.hid hAlt
  have hst := Lib.hid (backward1 8 (by omega) w.heap.size A c bs (by omega) w2 Z2.out R8.out hAlt (by rw [HS.out]; omega))
  rw [hnn]
  have hI : OwnFrom w2.heap.size (fun (pre : List Nat) (W : World) => Boxed W w.heap.size 3 (.int .i64 (bkR bs pre : Int)) ∧ Below w.heap.size w W ∧ w.heap.size + 2 ≤ W.heap.size) := by
    rintro pre X Y row ⟨h1, h2, h3⟩ hg hr
    exact ⟨boxed_ownR h1 hg (fun r e => (hr r e).2), h2.grown hg h2.size (fun k hk => by have := (hr k hk).1; have := HS.out; omega), Nat.le_trans h3 hg.size⟩
  have HI := Lib.hid hI
  clear hI hAlt hnn
  go_wp2_with fail
  refine (wpIn_wide (n := 9)).1 (wpIn_rangeFunc_ownG (F := Fence.wide) rfl (by omega) (gf := 70) (lb := #[.pointer (some ⟨w.heap.size + 1, 0, none⟩)]) rfl trivial (enters_of Tryz.func70 (by kernel_rfl) rfl) hst.out KR.trans (KR.put (by rw [HS.out]; omega)) (Below.refl _ _) (fun _ => rfl)
    (fun pre W => Boxed W w.heap.size 3 (.int .i64 (bkR bs pre : Int)) ∧ Below w.heap.size w W ∧ w.heap.size + 2 ≤ W.heap.size) (fun _ _ _ => False) HI.out (fun _ _ _ _ _ hs _ _ => hs) ⟨Z1.out, B8.out, by rw [HS.out]; exact Nat.le_refl _⟩
    (fun q => { tmps := #[.int .u64 (t : Int), .slice A n c, undef, undef, .bool false, .pointer (some ⟨w.heap.size, 0, none⟩), undef, .bool (bs.getD (bs.length - 1 - q) false), .slice A n c, .func (.func 70) #[] #[.pointer (some ⟨w.heap.size + 1, 0, none⟩)], .int .i64 ((bs.length : Int) - 1 - (q : Int)), .bool (bs.getD (bs.length - 1 - q) false), undef, undef, undef, undef, undef, undef, undef, undef, undef, undef], defers := [] }) ?assign ?body ?done (fun _ _ _ _ _ _ h _ => h.elim))
  case assign =>
    intro l x W K hK
    have e : ∀ (ts : Array Value) (u v : Value), ((#[10, 11] : Array Nat).zip #[u, v]).foldl (fun t x => t.setIfInBounds x.1 x.2) ts = (ts.setIfInBounds 10 u).setIfInBounds 11 v := fun _ _ _ => by simp
    rw [show bkE bs x = #[.int .i64 ((bs.length : Int) - 1 - (x : Int)), .bool (bs.getD (bs.length - 1 - x) false)] from rfl, e]
    simp only [List.setIfInBounds_toArray, List.set_cons_zero, List.set_cons_succ]
    gi_wp2
    exact hK
  case body =>
    rintro l pre x W ⟨hbx, hbl, hsz⟩ hl
    have hlt := bkR_lt bs pre
    have hp5 : 2 ^ pre.length ≤ 2 ^ 5 := Nat.pow_le_pow_right (by omega) (by omega)
    have hsn := bkR_snoc bs pre x
    have HSN := Lib.hid hsn
    have BX := Lib.hid hbx
    have BL := Lib.hid hbl
    have SZ := Lib.hid hsz
    have d0 := hbx.cell
    have d1 := hbx.frozen
    clear hsn hbx hbl hsz
    generalize bkR bs pre = s at hlt HSN BX d0
    generalize bs.getD (bs.length - 1 - x) false = b at HSN ⊢
    have hs32 : s < 32 := by omega
    have hsz2 := SZ.out
    clear hlt hp5 hl
    cases b with
    | true =>
      have b1 := (BX.out.set (.int .i64 ((s : Int) * 2))).cell
      have b2 := (BX.out.set (.int .i64 ((s : Int) * 2))).frozen
      gi_wp2_with fail
      have ev : ((bkR bs (pre ++ [x]) : Nat) : Int) = (s : Int) * 2 + 1 := by rw [HSN.out]; simp; omega
      refine ⟨((KeepsOthers.setCell _ _ _).trans (KeepsOthers.setCell _ _ _)).from _, ?_, ?_, ?_, ?_⟩
      · exact fun k hk hne => (Chg.trans (Chg.set W w.heap.size 0 _) (Chg.set _ w.heap.size 0 _)).block k (by omega) (fun h => hne (by rcases h with h | h <;> exact h))
      · rw [ev]; exact (BX.out.set _).set _
      · exact (BL.out.setCell (p := ⟨w.heap.size, 0, none⟩) (Nat.le_refl _) _).setCell (p := ⟨w.heap.size, 0, none⟩) (Nat.le_refl _) _
      · simp; exact SZ.out
    | false =>
      gi_wp2_with fail
      have ev : ((bkR bs (pre ++ [x]) : Nat) : Int) = (s : Int) * 2 := by rw [HSN.out]; simp; omega
      refine ⟨(KeepsOthers.setCell _ _ _).from _, ?_, ?_, ?_, ?_⟩
      · exact fun k hk hne => (Chg.set W w.heap.size 0 _).block k (by omega) hne
      · rw [ev]; exact BX.out.set _
      · exact BL.out.setCell (p := ⟨w.heap.size, 0, none⟩) (Nat.le_refl _) _
      · simp; exact SZ.out
  case done =>
    rintro D xs W hD hS ⟨hbx, hbl, -⟩ hK
    subst hS
    rw [HN.out, ← HN.out, bkR_all bs _ (Nat.le_refl _), Nat.sub_self, List.drop_zero] at hbx
    have hrl := rowB_lt bs
    have hp6 : 2 ^ bs.length ≤ 2 ^ 6 := Nat.pow_le_pow_right (by omega) (by have := HN.out; omega)
    obtain ⟨s, hs⟩ : ∃ s, rowB bs = s := ⟨_, rfl⟩
    rw [hs] at hbx hrl
    obtain ⟨p, hp⟩ : ∃ p, 2 ^ s = p := ⟨_, rfl⟩
    obtain ⟨q, hq⟩ : ∃ q, t / p = q := ⟨_, rfl⟩
    have hpi : (2 : Int) ^ s = (p : Int) := pow_nat hp
    have hp0 : 0 < p := by rw [← hp]; exact Nat.pow_pos (by omega)
    have hqi : (t : Int) / (p : Int) = (q : Int) := by rw [← hq]; exact (Int.natCast_ediv _ _).symm
    have hq64 : q < 18446744073709551616 := by rw [← hq]; exact Nat.lt_of_le_of_lt (Nat.div_le_self _ _) ht
    have hqb : bits .and .u64 (q : Int) 1 = ((q % 2 : Nat) : Int) := by
      have h := u64_and_nat q 1 hq64 (by decide)
      rw [Nat.and_one_is_mod] at h
      exact h
    have hval : bitB t bs = decide (q % 2 = 1) := by unfold bitB; rw [hs, hp, hq]
    have HV := Lib.hid hval
    have d0 := hbx.cell
    have HK := Lib.hid hK
    have BL := Lib.hid hbl
    have hs64 : s < 64 := by omega
    obtain ⟨r, hr⟩ : ∃ r, q % 2 = r := ⟨_, rfl⟩
    have hr2 : r = 0 ∨ r = 1 := by omega
    rw [hr] at hqb HV
    clear hrl hp6 hs hp hq hval hK hbl hr hbx hst HI
    rcases hr2 with rfl | rfl
    · go_wp2_with fail
      refine ⟨by simp, .inl ⟨_, _, rfl, run_takeDeferred HK.out, ?_⟩⟩
      exact ⟨_, results_tmp rfl _ _ _, by rw [HV.out]; rfl, BL.out.grown (grownBy_putObj' W D (.deferred none)) BL.out.size (fun k hk => by have := HS.out; cases hk; omega)⟩
    · go_wp2_with fail
      refine ⟨by simp, .inl ⟨_, _, rfl, run_takeDeferred HK.out, ?_⟩⟩
      exact ⟨_, results_tmp rfl _ _ _, by rw [HV.out]; rfl, BL.out.grown (grownBy_putObj' W D (.deferred none)) BL.out.size (fun k hk => by have := HS.out; cases hk; omega)⟩
end Go.Proofs.YtaajnmggbhnndaaGreatDoor

namespace Go.Proofs.YtaajnmggbhnndaaGreatDoor
open Go.RowKit
set_option linter.unusedVariables false
set_option linter.unusedSimpArgs false

set_option maxRecDepth 100000 in
set_option maxHeartbeats 1000000 in
theorem growB_none (w : World) : Calls Tryz.prog 53 #[.slice none 0 0, .int .i64 0] w fun e w' => e = .returned (.slice none 0 0) ∧ w = w' := by
  go_enter Tryz.func53, Tryz.ntmps53
  go_wp2_with fail
  go_ret
  exact ⟨rfl, rfl⟩
set_option maxRecDepth 100000 in
set_option maxHeartbeats 1000000 in
theorem growB_some (n : Nat) (w : World) (h0 : 0 < n) (hn : n ≤ 100000000) :
    Calls Tryz.prog 53 #[.slice none 0 0, .int .i64 (n : Int)] w fun e w' => ∃ A c, e = .returned (.slice A 0 c) ∧ Below w.heap.size w w' ∧ w'.ownsRow w.heap.size 4 1 (.slice A 0 c) 0 [] := by
  obtain ⟨i0, hi0, hz0, hz1, hz2⟩ := info_parts bool_zero
  have hold : (Builtin.firstCells i0.size 0 (.slice none 0 0)).run Tryz.prog w.drew = .ok ([] : List Value).toArray w.drew := run_firstCells_none w.drew i0.size 0 0 0
  have hrz : ∀ ty, (Builtin.append_ #[42, 3] ty #[.slice none 0 0, .int .i64 (n : Int)]).run Tryz.prog w =
      .ok (.slice (some ⟨w.heap.size, 0, none⟩) (0 + n) (grownCap w (0 + n) 0 4)) (w.drew.alloc (.cells (([] : List Value).toArray ++ Builtin.zeroCells (Value.bool false).cells n ++ Builtin.zeroCells (Value.bool false).cells (grownCap w (0 + n) 0 4 - (0 + n))) 4)) := fun ty =>
    Lib.run_append_grow_zeros w 42 3 ty 4 i0 (.bool false) .i64 .i64 Tryz.underlying42 Tryz.underlying3 hi0 hz0 none 0 0 [] hold n h0 (by omega) (by omega) (by omega) (by rw [hz2]; omega) (growslice_fits (by omega) (by rw [hz2]; omega))
  rw [Nat.zero_add] at hrz
  have hG := grownCap_ge w n 0 4
  have hG2 := grownCap_le_maxLen w n 0 4 (by unfold maxLen; omega)
  generalize grownCap w n 0 4 = G at hrz hG hG2
  have hsz : (([] : List Value).toArray ++ Builtin.zeroCells (Value.bool false).cells n ++ Builtin.zeroCells (Value.bool false).cells (G - n)).size = G * 1 := by
    simp [Builtin.zeroCells, Value.cells]
    omega
  generalize ([] : List Value).toArray ++ Builtin.zeroCells (Value.bool false).cells n ++ Builtin.zeroCells (Value.bool false).cells (G - n) = cs at hrz hsz
  have HR := Lib.hid hrz
  have HS := Lib.hid hsz
  have HG2 := Lib.hid hG2
  have h63 : G ≤ 9223372036854775807 := by unfold maxLen at hG2; omega
  clear hrz hsz hold hi0 hz0 hz1 hz2 hG2
  go_enter Tryz.func53, Tryz.ntmps53
  go_wp2_with (at_builtin; refine Lib.wpList_append_run _ rfl _ _ _ _ rfl _ _ rfl rfl _ _ (HR.out _) ?_)
  go_ret
  refine ⟨some ⟨w.heap.size, 0, none⟩, G, rfl, ?_, ?_⟩
  · exact (Below.refl _ _).drew.alloc (Nat.le_refl _) _
  · exact World.ownsRow_made w.drew cs G (Nat.le_refl _) HG2.out HS.out
theorem bools_append (l m : List Bool) : bools (l ++ m) = bools l ++ bools m := List.map_append
abbrev SB : Type := Option Addr × Nat × List Bool
def slvB (l : SB) : Value := .slice l.1 l.2.2.length l.2.1
def catB (ls : List SB) : List Bool := ls.flatMap fun l => l.2.2
theorem catB_take (ls : List SB) (k : Nat) (h : k < ls.length) : catB (ls.take (k + 1)) = catB (ls.take k) ++ (ls[k]).2.2 := by
  unfold catB
  rw [List.take_succ_eq_append_getElem h, List.flatMap_append]
  simp only [List.flatMap_cons, List.flatMap_nil, List.append_nil]
theorem catB_take_le (ls : List SB) (k : Nat) : (catB (ls.take k)).length ≤ (catB ls).length := by
  have : catB ls = catB (ls.take k) ++ catB (ls.drop k) := by
    unfold catB
    rw [← List.flatMap_append, List.take_append_drop]
  rw [this, List.length_append]
  omega
set_option maxRecDepth 100000 in
set_option maxHeartbeats 2000000 in
theorem concatB_any (w : World) (A0 : Option Addr) (c0 m : Nat) (ls : List SB) (hm : ls.length = m) (hO : Rd w 1 A0 m c0 (ls.map slvB)) (hI : ∀ l ∈ ls, Rd w 1 l.1 l.2.2.length l.2.1 (bools l.2.2)) (hm1 : m ≤ 100000000) (hs : (catB ls).length ≤ 100000000) :
    Calls Tryz.prog 41 #[.slice A0 m c0] w fun e w' => ∃ A c, e = .returned (.slice A (catB ls).length c) ∧ Below w.heap.size w w' ∧ w'.ownsRow w.heap.size 4 1 (.slice A (catB ls).length c) (catB ls).length (bools (catB ls)) := by
  have HM := Lib.hid hm
  clear hm
  go_enter Tryz.func41, Tryz.ntmps41
  go_wp2_with fail
  go_loop [3, 11] (fun t i => ∃ k : Nat, k ≤ m ∧ i = .int .i64 (k : Int) ∧ t = .int .i64 ((catB (ls.take k)).length : Int)) (fun _ i => m - (intOf i).toNat)
  case atStart => exact ⟨0, by omega, rfl, by simp [catB]⟩
  case round =>
    obtain ⟨k, hk, rfl, rfl⟩ := hrel
    have h1 := catB_take_le ls k
    by_cases hlt : k < m
    · have hk' : k < ls.length := by rw [HM.out]; exact hlt
      have h2 := catB_take_le ls (k + 1)
      have h3 := catB_take ls k hk'
      have h4 : (catB (ls.take (k + 1))).length = (catB (ls.take k)).length + (ls[k]).2.2.length := by rw [h3, List.length_append]
      have h5 : (catB (ls.take k)).length + (ls[k]).2.2.length ≤ 100000000 := by omega
      have H4 := Lib.hid h4
      obtain ⟨a, rfl, hb, hc⟩ := hO.at1 hlt
      have e : (ls.map slvB).getD k undef = .slice (ls[k]).1 (ls[k]).2.2.length (ls[k]).2.1 := by
        rw [List.getD_eq_getElem?_getD, List.getElem?_map, List.getElem?_eq_getElem hk']; rfl
      rw [e] at hc
      clear h3 h4 h2 e
      generalize ls[k] = l at hc H4 h5
      obtain ⟨l1, l2, l3⟩ := l
      simp only at hc H4 h5
      go_wp2_with fail
      go_round
      case rel => exact ⟨k + 1, by omega, by go_num, by rw [H4.out]; go_num⟩
      case measure => simp [intOf]; omega
    · obtain rfl : k = m := by omega
      have hfull : (catB (ls.take k)).length = (catB ls).length := by rw [List.take_of_length_le (by rw [HM.out]; exact Nat.le_refl _)]
      rw [hfull]
      clear hfull h1
      have HS := Lib.hid hs
      obtain ⟨n, hn⟩ : ∃ n, (catB ls).length = n := ⟨_, rfl⟩
      have HN := Lib.hid hn
      rw [hn] at hs
      simp only [hn]
      clear hn
      have hgrow : Calls Tryz.prog 53 #[.slice none 0 0, .int .i64 (n : Int)] w fun e w' => ∃ A c, e = .returned (.slice A 0 c) ∧ Below w.heap.size w w' ∧ w'.ownsRow w.heap.size 4 1 (.slice A 0 c) 0 [] := by
        rcases Nat.eq_zero_or_pos n with h0 | h0
        · subst h0
          exact (growB_none w).mono fun e w' ⟨he, hw⟩ => ⟨none, 0, he, by rw [← hw]; exact Below.refl _ _, by rw [← hw]; exact World.ownsRow_nil _ _ _ _⟩
        · exact growB_some n w h0 hs
      have HG := Lib.hid hgrow
      clear hgrow
      go_wp2_with fail
      refine (HG.out).mono ?_
      rintro e w1 ⟨A1, c1, rfl, hb1, hown1⟩
      obtain ⟨i0, hi0, hz0, hz1, hz2⟩ := info_parts bool_zero
      have HI0 := Lib.hid hi0
      have HZ0 := Lib.hid hz0
      have HZ1 := Lib.hid hz1
      have HZ2 := Lib.hid hz2
      have HO1 := Lib.hid hown1
      have HB1 := Lib.hid hb1
      clear hi0 hz0 hz1 hz2 hown1 hb1
      go_wp2_with fail
      go_loopw [6, 27] (fun v i wx => ∃ q : Nat, q ≤ k ∧ i = .int .i64 (q : Int) ∧ Below w.heap.size w wx ∧ wx.ownsRow w.heap.size 4 1 v (catB (ls.take q)).length (bools (catB (ls.take q)))) (fun _ i _ => k - (intOf i).toNat)
      case atStart => exact ⟨0, by omega, rfl, HB1.out, by simpa [catB, bools] using HO1.out⟩
      case round =>
        clear HO1 HB1
        obtain ⟨q, hq, rfl, hbr, hown⟩ := hrel
        obtain ⟨AA, c, rfl⟩ := own_slice hown
        have HB := Lib.hid hbr
        have HO := Lib.hid hown
        have hsz := hbr.size
        clear hbr hown
        by_cases hlt : q < k
        · have hk' : q < ls.length := by rw [HM.out]; exact hlt
          have h2 := catB_take_le ls (q + 1)
          have h3 := catB_take ls q hk'
          have h5 : (catB (ls.take q)).length + (ls[q]).2.2.length ≤ 100000000 := by rw [h3, List.length_append] at h2; have := HS.out; omega
          have H3 := Lib.hid h3
          have hR := Lib.hid ((hI ls[q] (List.getElem_mem hk')))
          obtain ⟨a, rfl, hb, hc⟩ := hO.at1 hlt
          have e : (ls.map slvB).getD q undef = .slice (ls[q]).1 (ls[q]).2.2.length (ls[q]).2.1 := by
            rw [List.getD_eq_getElem?_getD, List.getElem?_map, List.getElem?_eq_getElem hk']; rfl
          rw [e] at hc
          have hc' := (HB.out.cell (p := a.add q) (by rw [add_block]; exact hb)).trans hc
          clear h3 h2 e hc
          generalize ls[q] = l at hc' H3 h5 hR
          obtain ⟨l1, l2, l3⟩ := l
          simp only at hc' H3 h5 hR
          generalize catB (ls.take q) = P at HO H3 h5
          cases l1 with
          | none =>
            have hl2 : l2 = 0 := hR.out.nil rfl
            have hl3 : l3.length = 0 := by have := hR.out.cap; omega
            subst hl2
            obtain rfl : l3 = [] := List.eq_nil_of_length_eq_zero hl3
            clear hl3 hR
            simp only [List.length_nil] at hc'
            go_wp2_with (at_builtin; refine wpList_append_own_none rfl (.tmp 31) (.tmp 32) 42 rfl w.heap.size 4 i0 1 Tryz.underlying42 HI0.out (.slice AA P.length c) P.length (bools P) rfl HO.out rfl ?_)
            go_wp2_with fail
            go_roundw
            case rel => exact ⟨q + 1, by omega, by go_num, HB.out, by rw [H3.out, List.append_nil]; exact HO.out⟩
            case measure => simp [intOf]; omega
          | some ad =>
            go_wp2_with (at_builtin; refine wpList_append_own _ rfl (.tmp 31) (.tmp 32) 42 rfl w.heap.size 4 i0 (.bool false) 1 1 Tryz.underlying42 HI0.out HZ0.out HZ1.out HZ2.out rfl (by decide) (.slice AA P.length c) P.length (bools P) rfl HO.out ad l3.length l2 (bools l3) rfl (by rw [bools_length, Nat.mul_one]) ?c1 ?c2 ?c3 ?c4 ?c5 ?_)
            case c1 =>
              intro j u hj
              obtain ⟨b, hb1, hb2, hb3⟩ := (hR.out.later HB.out).read j u hj
              injection hb1 with hb1
              subst hb1
              exact hb3
            case c2 =>
              intro u hu
              obtain ⟨x, -, rfl⟩ := List.mem_map.1 hu
              rfl
            case c3 => unfold maxLen; omega
            case c4 => omega
            case c5 => exact hsz
            intro v' w2 hown2 hg2 hnil
            have HO2 := Lib.hid hown2
            have HB2 := Lib.hid (HB.out.grown hg2 hsz (fun k hk => own_base HO.out hk))
            clear hown2 hg2 hnil
            go_wp2_with fail
            go_roundw
            case rel => exact ⟨q + 1, by omega, by go_num, HB2.out, by rw [H3.out, List.length_append, bools_append]; exact HO2.out⟩
            case measure => simp [intOf]; omega
        · obtain rfl : q = k := by omega
          have hfull : catB (ls.take q) = catB ls := by rw [List.take_of_length_le (by rw [HM.out]; exact Nat.le_refl _)]
          have HF := Lib.hid hfull
          clear hfull
          go_wp2_with fail
          go_ret
          refine ⟨AA, c, ?_, HB.out, ?_⟩
          · rw [HF.out, HN.out]; rfl
          · have := HO.out; rw [HF.out] at this; exact this
end Go.Proofs.YtaajnmggbhnndaaGreatDoor

namespace Go.Proofs.YtaajnmggbhnndaaGreatDoor
open Go.RowKit Go.Shelf
set_option linter.unusedVariables false
set_option linter.unusedSimpArgs false
/-- what is picked of a row of numbers -/
def pickI (v : List Int) (l : List Int) : List Int := l.map fun z => v.getD z.toNat 0
theorem pickB_take (v : List Bool) {l : List Int} {k : Nat} (h : k < l.length) : pickB v (l.take (k + 1)) = pickB v (l.take k) ++ [v.getD (l.getD k 0).toNat false] := by
  have e : l.getD k 0 = l[k] := by rw [List.getD_eq_getElem?_getD, List.getElem?_eq_getElem h]; rfl
  unfold pickB
  rw [List.take_succ_eq_append_getElem h, List.map_append, e]; rfl
theorem pickI_take (v : List Int) {l : List Int} {k : Nat} (h : k < l.length) : pickI v (l.take (k + 1)) = pickI v (l.take k) ++ [v.getD (l.getD k 0).toNat 0] := by
  have e : l.getD k 0 = l[k] := by rw [List.getD_eq_getElem?_getD, List.getElem?_eq_getElem h]; rfl
  unfold pickI
  rw [List.take_succ_eq_append_getElem h, List.map_append, e]; rfl
set_option maxRecDepth 100000 in
set_option maxHeartbeats 1000000 in
theorem pickB_any (A B : Option Addr) (n c d : Nat) (v : List Bool) (l : List Int) (w : World) (hv : Rd w 1 A n c (bools v)) (hl : Rd w 1 B l.length d (ints l)) (hn : ∀ z ∈ l, 0 ≤ z ∧ z < (n : Int)) (hll : l.length ≤ 100000) :
    Calls Tryz.prog 43 #[.slice A n c, .slice B l.length d] w fun r w' => ∃ A' c', r = .returned (.slice A' l.length c') ∧ Below w.heap.size w w' ∧ w'.ownsRow w.heap.size 4 1 (.slice A' l.length c') l.length (bools (pickB v l)) := by
  have HV := Lib.hid hv
  have HL := Lib.hid hl
  have HNN := Lib.hid hn
  obtain ⟨m, hm⟩ : ∃ m, l.length = m := ⟨_, rfl⟩
  have HM := Lib.hid hm
  rw [hm] at HL hll ⊢
  clear hv hl hn hm
  go_enter Tryz.func43, Tryz.ntmps43
  go_wp2_with fail
  go_loopw [5, 10] (fun v5 v10 wx => ∃ (k : Nat) (A' : Option Addr) (c' : Nat), k ≤ m ∧ v10 = .int .i64 (k : Int) ∧ v5 = .slice A' k c' ∧ wx.ownsRow w.heap.size 4 1 (.slice A' k c') k (bools (pickB v (l.take k))) ∧ Below w.heap.size w wx) (fun _ v10 _ => m - (intOf v10).toNat)
  case atStart => exact ⟨0, none, 0, by omega, rfl, rfl, by simpa [pickB, bools] using World.ownsRow_nil w w.heap.size 4 1, Below.refl _ _⟩
  case round =>
    obtain ⟨k, A', c', hk, rfl, rfl, hown, hB⟩ := hrel
    have O1 := Lib.hid hown
    have B1 := Lib.hid hB
    clear hown hB
    by_cases hlt : k < m
    case neg =>
      obtain rfl : k = m := by omega
      have hx : ¬ (k : Int) < (k : Int) := by omega
      have HF := Lib.hid (show l.take k = l from List.take_of_length_le (by rw [HM.out]; exact Nat.le_refl _))
      go_wp2_with fail
      go_ret
      exact ⟨A', c', rfl, B1.out, by have := O1.out; rw [HF.out] at this; exact this⟩
    have hlt' : (k : Int) < (m : Int) := by omega
    have hk' : k < l.length := by rw [HM.out]; exact hlt
    have hb := HNN.out _ (getD_mem (l := l) (k := k) hk')
    obtain ⟨z, hz⟩ : ∃ z : Nat, l.getD k 0 = (z : Int) := ⟨(l.getD k 0).toNat, by omega⟩
    obtain ⟨pl, hPL, hplb, d0⟩ := (HL.out.later B1.out).int hlt
    obtain ⟨pv, hPV, hpvb, d1⟩ := (HV.out.later B1.out).bool (k := z) (by omega)
    subst hPL
    subst hPV
    have hzn : (z : Int) < (n : Int) := by omega
    have hnx := pickB_take v hk'
    rw [hz, show ((z : Nat) : Int).toNat = z by omega] at hnx
    rw [hz] at d0
    have HNX := Lib.hid hnx
    have hsz := B1.out.size
    clear hnx hb hz hk'
    generalize v.getD z false = x at d1 HNX
    go_wp2_with (at_builtin; refine wpList_app_bools rfl (.tmp 14) (.tmp 19) rfl w.heap.size A' k c' _ rfl (O1.out.alloc _) (some ⟨wr.heap.size, 0, none⟩) 1 1 [x] rfl (rd_bool1 wr _ x) (by omega) (by simp; omega) ?_)
    intro A9 c9 u9 hown9 hgr9
    have HO9 := Lib.hid (show u9.ownsRow w.heap.size 4 1 (.slice A9 (k + 1) c9) (k + 1) (bools (pickB v (l.take (k + 1)))) from by rw [HNX.out]; exact hown9)
    have HB9 := Lib.hid ((below_then B1.out (below_new _ _)).grown hgr9 (below_then B1.out (below_new _ _)).size (fun q hq => own_base O1.out hq))
    clear hown9 hgr9 d0 d1
    go_wp2_with fail
    go_roundw
    case rel => exact ⟨k + 1, A9, c9, by omega, by go_num, rfl, HO9.out, HB9.out⟩
    case measure => simp [intOf]; omega
set_option maxRecDepth 100000 in
set_option maxHeartbeats 1000000 in
theorem pickI_any (A B : Option Addr) (n c d : Nat) (v : List Int) (l : List Int) (w : World) (hv : Rd w 1 A n c (ints v)) (hl : Rd w 1 B l.length d (ints l)) (hn : ∀ z ∈ l, 0 ≤ z ∧ z < (n : Int)) (hll : l.length ≤ 100000) :
    Calls Tryz.prog 28 #[.slice A n c, .slice B l.length d] w fun r w' => ∃ A' c', r = .returned (.slice A' l.length c') ∧ Below w.heap.size w w' ∧ w'.ownsRow w.heap.size 3 1 (.slice A' l.length c') l.length (ints (pickI v l)) := by
  have HV := Lib.hid hv
  have HL := Lib.hid hl
  have HNN := Lib.hid hn
  obtain ⟨m, hm⟩ : ∃ m, l.length = m := ⟨_, rfl⟩
  have HM := Lib.hid hm
  rw [hm] at HL hll ⊢
  clear hv hl hn hm
  go_enter Tryz.func28, Tryz.ntmps28
  go_wp2_with fail
  go_loopw [5, 10] (fun v5 v10 wx => ∃ (k : Nat) (A' : Option Addr) (c' : Nat), k ≤ m ∧ v10 = .int .i64 (k : Int) ∧ v5 = .slice A' k c' ∧ wx.ownsRow w.heap.size 3 1 (.slice A' k c') k (ints (pickI v (l.take k))) ∧ Below w.heap.size w wx) (fun _ v10 _ => m - (intOf v10).toNat)
  case atStart => exact ⟨0, none, 0, by omega, rfl, rfl, by simpa [pickI, ints] using World.ownsRow_nil w w.heap.size 3 1, Below.refl _ _⟩
  case round =>
    obtain ⟨k, A', c', hk, rfl, rfl, hown, hB⟩ := hrel
    have O1 := Lib.hid hown
    have B1 := Lib.hid hB
    clear hown hB
    by_cases hlt : k < m
    case neg =>
      obtain rfl : k = m := by omega
      have hx : ¬ (k : Int) < (k : Int) := by omega
      have HF := Lib.hid (show l.take k = l from List.take_of_length_le (by rw [HM.out]; exact Nat.le_refl _))
      go_wp2_with fail
      go_ret
      exact ⟨A', c', rfl, B1.out, by have := O1.out; rw [HF.out] at this; exact this⟩
    have hlt' : (k : Int) < (m : Int) := by omega
    have hk' : k < l.length := by rw [HM.out]; exact hlt
    have hb := HNN.out _ (getD_mem (l := l) (k := k) hk')
    obtain ⟨z, hz⟩ : ∃ z : Nat, l.getD k 0 = (z : Int) := ⟨(l.getD k 0).toNat, by omega⟩
    obtain ⟨pl, hPL, hplb, d0⟩ := (HL.out.later B1.out).int hlt
    obtain ⟨pv, hPV, hpvb, d1⟩ := (HV.out.later B1.out).int (k := z) (by omega)
    subst hPL
    subst hPV
    have hzn : (z : Int) < (n : Int) := by omega
    have hnx := pickI_take v hk'
    rw [hz, show ((z : Nat) : Int).toNat = z by omega] at hnx
    rw [hz] at d0
    have HNX := Lib.hid hnx
    have hsz := B1.out.size
    clear hnx hb hz hk'
    generalize v.getD z 0 = x at d1 HNX
    go_wp2_with (at_builtin; refine wpList_app_int rfl (.tmp 14) (.tmp 19) rfl w.heap.size A' k c' _ rfl O1.out x rfl (by omega) (by omega) ?_)
    intro A9 c9 u9 hown9 hgr9
    have HO9 := Lib.hid (show u9.ownsRow w.heap.size 3 1 (.slice A9 (k + 1) c9) (k + 1) (ints (pickI v (l.take (k + 1)))) from by rw [HNX.out]; exact hown9)
    have HB9 := Lib.hid ((below_then B1.out (below_new _ _)).grown hgr9 (below_then B1.out (below_new _ _)).size (fun q hq => own_base O1.out hq))
    clear hown9 hgr9 d0 d1
    go_wp2_with fail
    go_roundw
    case rel => exact ⟨k + 1, A9, c9, by omega, by go_num, rfl, HO9.out, HB9.out⟩
    case measure => simp [intOf]; omega
/-- how many nodes a net has -/
def NT.cn (N : NT) : Nat := 1 + N.I.toNat + N.hs.length + N.ls.length
theorem nvTo_next (ls : List PC) (ins st : List Bool) {i : Nat} (h : i < ls.length) : nvTo ls ins st (i + 1) = nvTo ls ins st i ++ [bitB ls[i].2 (pickB (nvTo ls ins st i) ls[i].1)] := by
  have e : ls.getD i ([], 0) = ls[i] := by rw [List.getD_eq_getElem?_getD, List.getElem?_eq_getElem h]; rfl
  rw [nvTo, e]
set_option maxRecDepth 100000 in
set_option maxHeartbeats 4000000 in
theorem lvalues_any (N : NT) (A B : Option Addr) (c d : Nat) (ins st : List Bool) (w : World) (hin : N.In w) (hf : N.fit) (hwf : N.wf) (hm : N.may 6) (ha : Rd w 1 A ins.length c (bools ins)) (hb : Rd w 1 B st.length d (bools st)) (hi : (ins.length : Int) = N.I) (hs : st.length = N.hs.length) :
    Calls Tryz.prog 25 #[.agg #[.int .i64 N.I, .slice N.AH N.hs.length N.cH, .slice N.AL N.ls.length N.cL, .slice N.AO N.ou.length N.cO], .slice A ins.length c, .slice B st.length d] w fun r w' => ∃ A c, r = .returned (.slice A N.cn c) ∧ Below w.heap.size w w' ∧ Rd w' 1 A N.cn c (bools (nvTo N.luts ins st N.ls.length)) := by
  have Q0 := Lib.hid (below_new w (.cells #[.int .i64 N.I, .slice N.AH N.hs.length N.cH, .slice N.AL N.ls.length N.cL, .slice N.AO N.ou.length N.cO] 32))
  have X0 := Lib.hid (Blk.made w 32 #[.int .i64 N.I, .slice N.AH N.hs.length N.cH, .slice N.AL N.ls.length N.cL, .slice N.AO N.ou.length N.cO])
  have hsm := hm.small hf
  obtain ⟨F, hF⟩ : ∃ F, 1 + ins.length + st.length = F := ⟨_, rfl⟩
  have hFf : N.fst = (F : Int) := by unfold NT.fst; omega
  obtain ⟨n, hn⟩ : ∃ n, N.ls.length = n := ⟨_, rfl⟩
  have HCN := Lib.hid (show N.cn = F + n by unfold NT.cn; omega)
  have HIN := Lib.hid hin
  have HM := Lib.hid hm
  have HWF := Lib.hid hwf
  have HA := Lib.hid ha
  have HB := Lib.hid hb
  have HN := Lib.hid hn
  have HFE := Lib.hid hF
  have HFF := Lib.hid hFf
  have hF3 : F ≤ 2001 := by have := hf.hs; omega
  have hn3 : n ≤ 1000 := by have := hf.ls; omega
  have NI := Lib.hid (show ins.length ≤ 1000 by omega)
  have NS := Lib.hid (show st.length ≤ 1000 by have := hf.hs; omega)
  clear hin hf hm hwf ha hb hi hs hF hFf hn hsm
  go_enter Tryz.func25, Tryz.ntmps25
  have k2 : (w.alloc (.cells #[.int .i64 N.I, .slice N.AH N.hs.length N.cH, .slice N.AL N.ls.length N.cL, .slice N.AO N.ou.length N.cO] 32)).cell? ⟨w.heap.size, 2, none⟩ = some (.slice N.AL N.ls.length N.cL) := X0.out.cell 2
  go_wp2_with fail
  have hcat : catB [((some ⟨w.heap.size + 1, 0, none⟩, 1, [false]) : SB), (A, c, ins), (B, d, st)] = nvTo N.luts ins st 0 := by simp [catB, nvTo]
  have hvl0 : (nvTo N.luts ins st 0).length = F := by rw [nvTo_len, HFE.out]; omega
  obtain ⟨w1, hw1⟩ : ∃ w1, w.alloc (.cells #[.int .i64 N.I, .slice N.AH N.hs.length N.cH, .slice N.AL N.ls.length N.cL, .slice N.AO N.ou.length N.cO] 32) = w1 := ⟨_, rfl⟩
  have hsz1 : w1.heap.size = w.heap.size + 1 := by rw [← hw1]; simp
  rw [hw1] at Q0 X0 ⊢
  rw [← hsz1] at hcat ⊢
  have hcc := concatB_any ((w1.alloc (.cells #[.bool false] 4)).alloc (.cells #[.slice (some ⟨w1.heap.size, 0, none⟩) 1 1, .slice A ins.length c, .slice B st.length d] 42)) (some ⟨w1.heap.size + 1, 0, none⟩) 3 3
    [((some ⟨w1.heap.size, 0, none⟩, 1, [false]) : SB), (A, c, ins), (B, d, st)] rfl
    (rd_of_blk (cs := [.slice (some ⟨w1.heap.size, 0, none⟩) 1 1, .slice A ins.length c, .slice B st.length d]) (blk_made1 w1 _ 42 #[.slice (some ⟨w1.heap.size, 0, none⟩) 1 1, .slice A ins.length c, .slice B st.length d]) 1 3 rfl)
    (by
      intro l hl
      simp only [List.mem_cons, List.not_mem_nil, or_false] at hl
      rcases hl with rfl | rfl | rfl
      · exact (rd_bool1 w1 4 false).later (below_new _ _)
      · exact HA.out.later (below_then Q0.out (below_then (below_new _ _) (below_new _ _)))
      · exact HB.out.later (below_then Q0.out (below_then (below_new _ _) (below_new _ _)))) (by decide) (by rw [hcat, hvl0]; omega)
  rw [hcat, hvl0] at hcc
  have HCC := Lib.hid hcc
  clear hcc hcat hvl0 k2
  refine HCC.out.mono ?_
  rintro e w3 ⟨A3, c3, rfl, hb3, hown3⟩
  have hb3' := below_then (below_then (below_new w1 (.cells #[.bool false] 4)) (below_new _ (.cells #[.slice (some ⟨w1.heap.size, 0, none⟩) 1 1, .slice A ins.length c, .slice B st.length d] 42))) hb3
  have Q3 := Lib.hid (below_then Q0.out hb3')
  have X3 := Lib.hid (X0.out.keep hb3')
  have O3 := Lib.hid (own_down hown3 (show w.heap.size ≤ _ from (below_then Q0.out (below_then (below_new w1 (.cells #[.bool false] 4)) (below_new _ (.cells #[.slice (some ⟨w1.heap.size, 0, none⟩) 1 1, .slice A ins.length c, .slice B st.length d] 42)))).size))
  clear hb3 hb3' hown3 HCC hw1 hsz1
  have k2 : w3.cell? ⟨w.heap.size, 2, none⟩ = some (.slice N.AL N.ls.length N.cL) := X3.out.cell 2
  rw [HN.out] at k2
  obtain ⟨AL, hAL⟩ : ∃ A, N.AL = A := ⟨_, rfl⟩
  have HAL := Lib.hid hAL
  rw [hAL] at k2
  clear hAL
  go_wp2_with fail
  go_loopw [7, 18] (fun v7 v18 wx => ∃ (i : Nat) (A : Option Addr) (c : Nat), i ≤ n ∧ v18 = .int .i64 (i : Int) ∧ v7 = .slice A (F + i) c ∧ wx.ownsRow w.heap.size 4 1 (.slice A (F + i) c) (F + i) (bools (nvTo N.luts ins st i)) ∧ Below w.heap.size w wx) (fun _ v18 _ => n - (intOf v18).toNat)
  case atStart => exact ⟨0, _, _, by omega, rfl, rfl, O3.out, Q3.out⟩
  case round =>
    obtain ⟨i, A', c', hi, rfl, rfl, hown, hB⟩ := hrel
    have B6 := Lib.hid hB
    have O6 := Lib.hid hown
    clear hown hB
    by_cases hin : i < n
    case neg =>
      obtain rfl : i = n := by omega
      have hlt : ¬ (i : Int) < (i : Int) := by omega
      go_wp2_with fail
      go_ret
      refine ⟨A', c', ?_, B6.out, ?_⟩
      · rw [HCN.out]; rfl
      · rw [HCN.out, HN.out]; exact Rd.of_own O6.out
    have hin' : (i : Int) < (n : Int) := by omega
    have hia : i < N.ls.length := by rw [HN.out]; exact hin
    obtain ⟨pa, hPA, hpb, e0, e1, hsl⟩ := HIN.out.ls.at_ hia
    have hlut := lutB_len (HM.out.ok.1 i hia)
    have htw := (HWF.out.ls _ (List.getElem_mem hia)).2
    have hnx := nvTo_next N.luts ins st (i := i) (by rw [N.luts_len]; exact hia)
    rw [N.luts_at hia] at hnx
    rw [HAL.out] at hPA
    subst hPA
    generalize N.ls[i] = ci at e0 e1 hsl hlut htw hnx
    obtain ⟨⟨l1, l2, l3⟩, t⟩ := ci
    simp only [slv] at e0 e1 hsl hlut htw hnx
    obtain ⟨ga, hga⟩ : ∃ p, pa.add (i * 2) = p := ⟨_, rfl⟩
    have hgab : ga.block < w.heap.size := by rw [← hga, add_block]; exact hpb
    rw [hga] at e0 e1
    have e2 := (B6.out.cell hgab).trans e0
    have e3 := (B6.out.cell (p := ⟨ga.block, ga.off + 1, none⟩) hgab).trans e1
    have hmem : ∀ z ∈ l3, 0 ≤ z ∧ z < ((F + i : Nat) : Int) := fun z hz => by
      have := hlut.2.2 z hz
      rw [HFF.out] at this
      omega
    have hl36 : l3.length ≤ 6 := by omega
    have HNX := Lib.hid hnx
    have hsz := B6.out.size
    have HSL := Lib.hid hsl
    clear e0 e1 hsl hlut hnx
    obtain ⟨w7, hw7⟩ : ∃ w7, wr.alloc (.cells #[.slice l1 l3.length l2, .int .u64 (t : Int)] 41) = w7 := ⟨_, rfl⟩
    obtain ⟨gx, hgx⟩ : ∃ gx, wr.heap.size = gx := ⟨_, rfl⟩
    have Y7 := Lib.hid (show Blk w7 gx 41 #[.slice l1 l3.length l2, .int .u64 (t : Int)] by rw [← hw7, ← hgx]; exact Blk.made wr _ _)
    have B7 := Lib.hid (show Below w.heap.size w w7 by rw [← hw7]; exact below_then B6.out (below_new wr _))
    have O7 := Lib.hid (show w7.ownsRow w.heap.size 4 1 (.slice A' (F + i) c') (F + i) (bools (nvTo N.luts ins st i)) by rw [← hw7]; exact O6.out.alloc _)
    obtain ⟨q, hq⟩ : ∃ q, l3.length = q := ⟨_, rfl⟩
    have HP := Lib.hid (fun (W : World) (h : Below w7.heap.size w7 W) => pickB_any A' l1 (F + i) c' l2 (nvTo N.luts ins st i) l3 W ((Rd.of_own O7.out).later h) (Rd.later HSL.out (below_then B7.out h)) hmem (by omega))
    obtain ⟨bs, hbs⟩ : ∃ bs, pickB (nvTo N.luts ins st i) l3 = bs := ⟨_, rfl⟩
    have hbl : bs.length = q := by rw [← hbs, ← hq]; unfold pickB; rw [List.length_map]
    have HBL := Lib.hid hbl
    rw [hbs] at HP HNX
    rw [hq] at HP Y7 hl36 e2 hw7
    clear hmem hbs hbl hq
    go_wp2_with fail
    try rw [hw7]
    try simp only [hgx]
    clear hw7 hgx e2 e3
    have y0 := Y7.out.cell 0
    have y1 := Y7.out.cell 1
    refine wp_region_held_drew (S := (fun _ => True)) (by kernel_rfl) ?_ (fun hHeld => ?_)
    · trivial
    refine wpAnyH_take (i := 0) (oi := { dst := some 22, op := Op.move (Operand.tmp 7), type := 42, pos := _, after := #[], guard := none }) (v := ?_) rfl (by kernel_rfl) (by kernel_rfl) (by kernel_rfl) (fun _ _ _ h => h) (Or.inl ⟨by rfl, ?_⟩) (by assumption) ?_
    rotate_left
    · intro w hSw; (try dsimp only at hSw); go_simp; (try with_reducible rfl)
    try simp only [Act.put, List.setIfInBounds_toArray, List.set_cons_zero, List.set_cons_succ]
    refine wpAnyH_take (i := 1) (oi := { dst := some 23, op := Op.fieldAddr 41 (Operand.tmp 9) 1, type := 0, pos := _, after := #[], guard := none }) (v := ?_) rfl (by kernel_rfl) (by kernel_rfl) (by kernel_rfl) (fun _ _ _ h => h) (Or.inl ⟨by rfl, ?_⟩) (by assumption) ?_
    rotate_left
    · intro w hSw; (try dsimp only at hSw); go_simp; (try with_reducible rfl)
    try simp only [Act.put, List.setIfInBounds_toArray, List.set_cons_zero, List.set_cons_succ]
    refine wpAnyH_take (i := 3) (oi := { dst := some 25, op := Op.move (Operand.tmp 7), type := 42, pos := _, after := #[], guard := none }) (v := ?_) rfl (by kernel_rfl) (by kernel_rfl) (by kernel_rfl) (fun _ _ _ h => h) (Or.inl ⟨by rfl, ?_⟩) (by assumption) ?_
    rotate_left
    · intro w hSw; (try dsimp only at hSw); go_simp; (try with_reducible rfl)
    try simp only [Act.put, List.setIfInBounds_toArray, List.set_cons_zero, List.set_cons_succ]
    refine wpAnyH_take (i := 4) (oi := { dst := some 26, op := Op.fieldAddr 41 (Operand.tmp 9) 0, type := 0, pos := _, after := #[], guard := none }) (v := ?_) rfl (by kernel_rfl) (by kernel_rfl) (by kernel_rfl) (fun _ _ _ h => h) (Or.inl ⟨by rfl, ?_⟩) (by assumption) ?_
    rotate_left
    · intro w hSw; (try dsimp only at hSw); go_simp; (try with_reducible rfl)
    try simp only [Act.put, List.setIfInBounds_toArray, List.set_cons_zero, List.set_cons_succ]
    refine wpAnyH_ready (rs := [2, 5]) (by kernel_rfl) (by simp) ?_
    refine AllReadyH.cons (o := { dst := some 24, op := Op.load 39 (Operand.tmp 23), type := 39, pos := _, after := #[{ on := 1, ground := Ground.data }], guard := none }) rfl (fun K hK => ?_) (AllReadyH.cons (o := { dst := some 27, op := Op.load 24 (Operand.tmp 26), type := 24, pos := _, after := #[{ on := 4, ground := Ground.data }], guard := none }) rfl (fun K hK => ?_) AllReadyH.nil)
    · skip
      go_simp
      refine hK.out _ _ ?_ (fun hHeld => ?_)
      · trivial
      clear hK K
      try simp only [Act.put, List.setIfInBounds_toArray, List.set_cons_zero, List.set_cons_succ]
      refine wpAnyH_ready (rs := [5]) (by kernel_rfl) (by simp) ?_
      refine AllReadyH.cons (o := { dst := some 27, op := Op.load 24 (Operand.tmp 26), type := 24, pos := _, after := #[{ on := 4, ground := Ground.data }], guard := none }) rfl (fun K hK => ?_) AllReadyH.nil
      go_simp
      refine hK.out _ _ ?_ (fun hHeld => ?_)
      · trivial
      clear hK K
      try simp only [Act.put, List.setIfInBounds_toArray, List.set_cons_zero, List.set_cons_succ]
      refine wpAnyH_ready (rs := [6]) (by kernel_rfl) (by simp) ?_
      refine AllReadyH.cons (o := { dst := some 28, op := Op.call { callee := Callee.value (Operand.func 43), args := #[Operand.tmp 25, Operand.tmp 27], argTypes := #[42, 24] }, type := 42, pos := _, after := #[{ on := 3, ground := Ground.data }, { on := 5, ground := Ground.data }], guard := none }) rfl (fun K hK => ?_) AllReadyH.nil
      go_simp
      with_reducible refine (HP.out _ ?_).mono ?_
      · exact below_drewN (Below.refl _ _) 1
      rintro e w8 ⟨A8, c8, rfl, hb8, hown8⟩
      have hb8 : Below w7.heap.size w7 w8 := below_of_drew hb8
      have BB8 := Lib.hid hb8
      have P8 := Lib.hid (Rd.of_own hown8)
      have HBIT := Lib.hid (bit_any A8 c8 bs t w8 (by rw [HBL.out]; exact P8.out) (by rw [HBL.out]; exact hl36) htw)
      rw [HBL.out] at HBIT
      have j0 := (Y7.out.keep hb8).cell 0
      have j1 := (Y7.out.keep hb8).cell 1
      clear hb8 hown8
      refine hK.out _ _ ?_ (fun hHeld => ?_)
      · trivial
      clear hK K
      try simp only [Act.put, List.setIfInBounds_toArray, List.set_cons_zero, List.set_cons_succ]
      refine wpAnyH_ready (rs := [7]) (by kernel_rfl) (by simp) ?_
      refine AllReadyH.cons (o := { dst := some 29, op := Op.call { callee := Callee.value (Operand.func 42), args := #[Operand.tmp 24, Operand.tmp 28], argTypes := #[39, 42] }, type := 4, pos := _, after := #[{ on := 2, ground := Ground.data }, { on := 6, ground := Ground.data }, { on := 6, ground := Ground.chain }], guard := none }) rfl (fun K hK => ?_) AllReadyH.nil
      go_simp
      with_reducible refine HBIT.out.mono ?_
      rintro e w9 ⟨rfl, hb9⟩
      have BB9 := Lib.hid (below_then BB8.out hb9)
      have O9 := Lib.hid (own_keep O7.out (below_then BB8.out hb9))
      clear hb9
      refine hK.out _ _ ?_ (fun hHeld => ?_)
      · trivial
      clear hK K
      try simp only [Act.put, List.setIfInBounds_toArray, List.set_cons_zero, List.set_cons_succ]
      refine wpAnyH_ready (rs := [8]) (by kernel_rfl) (by simp) ?_
      refine AllReadyH.cons (o := { dst := some 30, op := Op.buildSlice 42 1 #[(0, Operand.tmp 29)], type := 42, pos := _, after := #[{ on := 7, ground := Ground.data }], guard := none }) rfl (fun K hK => ?_) AllReadyH.nil
      go_simp
      refine hK.out _ _ ?_ (fun hHeld => ?_)
      · trivial
      clear hK K
      try simp only [Act.put, List.setIfInBounds_toArray, List.set_cons_zero, List.set_cons_succ]
      refine wpAnyH_ready (rs := [9]) (by kernel_rfl) (by simp) ?_
      refine AllReadyH.cons (o := { dst := some 31, op := Op.call { callee := Callee.builtin Builtin.append, args := #[Operand.tmp 22, Operand.tmp 30], argTypes := #[42, 42] }, type := 42, pos := _, after := #[{ on := 0, ground := Ground.data }, { on := 8, ground := Ground.data }, { on := 7, ground := Ground.chain }], guard := none }) rfl (fun K hK => ?_) AllReadyH.nil
      obtain ⟨A9, k9, u9, hrun9, hown9, hgr9, hat9⟩ := app_run 42 4 42 Tryz.underlying42 _ 1 1 bool_zero rfl (by decide) (by decide) w.heap.size A' (F + i) c' (bools (nvTo N.luts ins st i)) (O9.out.alloc (.cells #[.bool (bitB t bs)] 4)) ⟨w9.heap.size, 0, none⟩ 1 (bools [bitB t bs]) (rd_of_blk (cs := bools [bitB t bs]) (Blk.made w9 4 #[.bool (bitB t bs)]) 1 1 rfl) (fun u hu => by obtain ⟨x, -, rfl⟩ := List.mem_map.1 hu; rfl) (by omega) (by have := B7.out.size; have := BB9.out.size; simp; omega)
      refine step_app_run (by rfl) (.tmp 22) (.tmp 30) 42 42 (by rfl) (.slice A' (F + i) c') (.slice (some ⟨w9.heap.size, 0, none⟩) 1 1) (by rfl) (by rfl) hrun9 ?_
      refine hK.out _ _ ?_ (fun hHeld => ?_)
      · trivial
      clear hK K
      try simp only [Act.put, List.setIfInBounds_toArray, List.set_cons_zero, List.set_cons_succ]
      refine wpAnyH_ready (rs := [10]) (by kernel_rfl) (by simp) ?_
      refine AllReadyH.cons (o := { dst := some 7, op := Op.assign (Operand.tmp 31), type := 42, pos := _, after := #[{ on := 9, ground := Ground.data }, { on := 9, ground := Ground.chain }, { on := 0, ground := Ground.phase }, { on := 1, ground := Ground.phase }, { on := 2, ground := Ground.phase }, { on := 3, ground := Ground.phase }, { on := 4, ground := Ground.phase }, { on := 5, ground := Ground.phase }, { on := 6, ground := Ground.phase }, { on := 7, ground := Ground.phase }, { on := 8, ground := Ground.phase }, { on := 9, ground := Ground.phase }], guard := none }) rfl (fun K hK => ?_) AllReadyH.nil
      go_simp
      refine hK.out _ _ ?_ (fun hHeld => ?_)
      · trivial
      clear hK K
      try simp only [Act.put, List.setIfInBounds_toArray, List.set_cons_zero, List.set_cons_succ]
      refine wpAnyH_done (by kernel_rfl) ?_ _
      have HO9 := Lib.hid (show u9.ownsRow w.heap.size 4 1 (.slice A9 (F + i + 1) k9) (F + i + 1) (bools (nvTo N.luts ins st (i + 1))) from by rw [HNX.out, bools_append]; exact hown9)
      have HB9 := Lib.hid ((below_then (below_then B7.out BB9.out) (below_new w9 (.cells #[.bool (bitB t bs)] 4))).grown hgr9 (below_then (below_then B7.out BB9.out) (below_new w9 (.cells #[.bool (bitB t bs)] 4))).size (fun q hq => own_base O9.out (by rw [own_blk]; exact hq)))
      clear hrun9 hown9 hgr9 hat9
      go_wp2_with fail
      go_roundw
      case rel => exact ⟨i + 1, A9, k9, by omega, by go_num, rfl, HO9.out, HB9.out⟩
      case measure => simp [intOf]; omega
    · skip
      go_simp
      refine hK.out _ _ ?_ (fun hHeld => ?_)
      · trivial
      clear hK K
      try simp only [Act.put, List.setIfInBounds_toArray, List.set_cons_zero, List.set_cons_succ]
      refine wpAnyH_ready (rs := [2, 6]) (by kernel_rfl) (by simp) ?_
      refine AllReadyH.cons (o := { dst := some 24, op := Op.load 39 (Operand.tmp 23), type := 39, pos := _, after := #[{ on := 1, ground := Ground.data }], guard := none }) rfl (fun K hK => ?_) (AllReadyH.cons (o := { dst := some 28, op := Op.call { callee := Callee.value (Operand.func 43), args := #[Operand.tmp 25, Operand.tmp 27], argTypes := #[42, 24] }, type := 42, pos := _, after := #[{ on := 3, ground := Ground.data }, { on := 5, ground := Ground.data }], guard := none }) rfl (fun K hK => ?_) AllReadyH.nil)
      · skip
        go_simp
        refine hK.out _ _ ?_ (fun hHeld => ?_)
        · trivial
        clear hK K
        try simp only [Act.put, List.setIfInBounds_toArray, List.set_cons_zero, List.set_cons_succ]
        refine wpAnyH_ready (rs := [6]) (by kernel_rfl) (by simp) ?_
        refine AllReadyH.cons (o := { dst := some 28, op := Op.call { callee := Callee.value (Operand.func 43), args := #[Operand.tmp 25, Operand.tmp 27], argTypes := #[42, 24] }, type := 42, pos := _, after := #[{ on := 3, ground := Ground.data }, { on := 5, ground := Ground.data }], guard := none }) rfl (fun K hK => ?_) AllReadyH.nil
        go_simp
        with_reducible refine (HP.out _ ?_).mono ?_
        · exact below_drewN (Below.refl _ _) 1
        rintro e w8 ⟨A8, c8, rfl, hb8, hown8⟩
        have hb8 : Below w7.heap.size w7 w8 := below_of_drew hb8
        have BB8 := Lib.hid hb8
        have P8 := Lib.hid (Rd.of_own hown8)
        have HBIT := Lib.hid (bit_any A8 c8 bs t w8 (by rw [HBL.out]; exact P8.out) (by rw [HBL.out]; exact hl36) htw)
        rw [HBL.out] at HBIT
        have j0 := (Y7.out.keep hb8).cell 0
        have j1 := (Y7.out.keep hb8).cell 1
        clear hb8 hown8
        refine hK.out _ _ ?_ (fun hHeld => ?_)
        · trivial
        clear hK K
        try simp only [Act.put, List.setIfInBounds_toArray, List.set_cons_zero, List.set_cons_succ]
        refine wpAnyH_ready (rs := [7]) (by kernel_rfl) (by simp) ?_
        refine AllReadyH.cons (o := { dst := some 29, op := Op.call { callee := Callee.value (Operand.func 42), args := #[Operand.tmp 24, Operand.tmp 28], argTypes := #[39, 42] }, type := 4, pos := _, after := #[{ on := 2, ground := Ground.data }, { on := 6, ground := Ground.data }, { on := 6, ground := Ground.chain }], guard := none }) rfl (fun K hK => ?_) AllReadyH.nil
        go_simp
        with_reducible refine HBIT.out.mono ?_
        rintro e w9 ⟨rfl, hb9⟩
        have BB9 := Lib.hid (below_then BB8.out hb9)
        have O9 := Lib.hid (own_keep O7.out (below_then BB8.out hb9))
        clear hb9
        refine hK.out _ _ ?_ (fun hHeld => ?_)
        · trivial
        clear hK K
        try simp only [Act.put, List.setIfInBounds_toArray, List.set_cons_zero, List.set_cons_succ]
        refine wpAnyH_ready (rs := [8]) (by kernel_rfl) (by simp) ?_
        refine AllReadyH.cons (o := { dst := some 30, op := Op.buildSlice 42 1 #[(0, Operand.tmp 29)], type := 42, pos := _, after := #[{ on := 7, ground := Ground.data }], guard := none }) rfl (fun K hK => ?_) AllReadyH.nil
        go_simp
        refine hK.out _ _ ?_ (fun hHeld => ?_)
        · trivial
        clear hK K
        try simp only [Act.put, List.setIfInBounds_toArray, List.set_cons_zero, List.set_cons_succ]
        refine wpAnyH_ready (rs := [9]) (by kernel_rfl) (by simp) ?_
        refine AllReadyH.cons (o := { dst := some 31, op := Op.call { callee := Callee.builtin Builtin.append, args := #[Operand.tmp 22, Operand.tmp 30], argTypes := #[42, 42] }, type := 42, pos := _, after := #[{ on := 0, ground := Ground.data }, { on := 8, ground := Ground.data }, { on := 7, ground := Ground.chain }], guard := none }) rfl (fun K hK => ?_) AllReadyH.nil
        obtain ⟨A9, k9, u9, hrun9, hown9, hgr9, hat9⟩ := app_run 42 4 42 Tryz.underlying42 _ 1 1 bool_zero rfl (by decide) (by decide) w.heap.size A' (F + i) c' (bools (nvTo N.luts ins st i)) (O9.out.alloc (.cells #[.bool (bitB t bs)] 4)) ⟨w9.heap.size, 0, none⟩ 1 (bools [bitB t bs]) (rd_of_blk (cs := bools [bitB t bs]) (Blk.made w9 4 #[.bool (bitB t bs)]) 1 1 rfl) (fun u hu => by obtain ⟨x, -, rfl⟩ := List.mem_map.1 hu; rfl) (by omega) (by have := B7.out.size; have := BB9.out.size; simp; omega)
        refine step_app_run (by rfl) (.tmp 22) (.tmp 30) 42 42 (by rfl) (.slice A' (F + i) c') (.slice (some ⟨w9.heap.size, 0, none⟩) 1 1) (by rfl) (by rfl) hrun9 ?_
        refine hK.out _ _ ?_ (fun hHeld => ?_)
        · trivial
        clear hK K
        try simp only [Act.put, List.setIfInBounds_toArray, List.set_cons_zero, List.set_cons_succ]
        refine wpAnyH_ready (rs := [10]) (by kernel_rfl) (by simp) ?_
        refine AllReadyH.cons (o := { dst := some 7, op := Op.assign (Operand.tmp 31), type := 42, pos := _, after := #[{ on := 9, ground := Ground.data }, { on := 9, ground := Ground.chain }, { on := 0, ground := Ground.phase }, { on := 1, ground := Ground.phase }, { on := 2, ground := Ground.phase }, { on := 3, ground := Ground.phase }, { on := 4, ground := Ground.phase }, { on := 5, ground := Ground.phase }, { on := 6, ground := Ground.phase }, { on := 7, ground := Ground.phase }, { on := 8, ground := Ground.phase }, { on := 9, ground := Ground.phase }], guard := none }) rfl (fun K hK => ?_) AllReadyH.nil
        go_simp
        refine hK.out _ _ ?_ (fun hHeld => ?_)
        · trivial
        clear hK K
        try simp only [Act.put, List.setIfInBounds_toArray, List.set_cons_zero, List.set_cons_succ]
        refine wpAnyH_done (by kernel_rfl) ?_ _
        have HO9 := Lib.hid (show u9.ownsRow w.heap.size 4 1 (.slice A9 (F + i + 1) k9) (F + i + 1) (bools (nvTo N.luts ins st (i + 1))) from by rw [HNX.out, bools_append]; exact hown9)
        have HB9 := Lib.hid ((below_then (below_then B7.out BB9.out) (below_new w9 (.cells #[.bool (bitB t bs)] 4))).grown hgr9 (below_then (below_then B7.out BB9.out) (below_new w9 (.cells #[.bool (bitB t bs)] 4))).size (fun q hq => own_base O9.out (by rw [own_blk]; exact hq)))
        clear hrun9 hown9 hgr9 hat9
        go_wp2_with fail
        go_roundw
        case rel => exact ⟨i + 1, A9, k9, by omega, by go_num, rfl, HO9.out, HB9.out⟩
        case measure => simp [intOf]; omega
      · skip
        go_simp
        with_reducible refine (HP.out _ ?_).mono ?_
        · exact below_drewN (Below.refl _ _) 1
        rintro e w8 ⟨A8, c8, rfl, hb8, hown8⟩
        have hb8 : Below w7.heap.size w7 w8 := below_of_drew hb8
        have BB8 := Lib.hid hb8
        have P8 := Lib.hid (Rd.of_own hown8)
        have HBIT := Lib.hid (bit_any A8 c8 bs t w8 (by rw [HBL.out]; exact P8.out) (by rw [HBL.out]; exact hl36) htw)
        rw [HBL.out] at HBIT
        have j0 := (Y7.out.keep hb8).cell 0
        have j1 := (Y7.out.keep hb8).cell 1
        clear hb8 hown8
        refine hK.out _ _ ?_ (fun hHeld => ?_)
        · trivial
        clear hK K
        try simp only [Act.put, List.setIfInBounds_toArray, List.set_cons_zero, List.set_cons_succ]
        refine wpAnyH_ready (rs := [2]) (by kernel_rfl) (by simp) ?_
        refine AllReadyH.cons (o := { dst := some 24, op := Op.load 39 (Operand.tmp 23), type := 39, pos := _, after := #[{ on := 1, ground := Ground.data }], guard := none }) rfl (fun K hK => ?_) AllReadyH.nil
        go_simp
        refine hK.out _ _ ?_ (fun hHeld => ?_)
        · trivial
        clear hK K
        try simp only [Act.put, List.setIfInBounds_toArray, List.set_cons_zero, List.set_cons_succ]
        refine wpAnyH_ready (rs := [7]) (by kernel_rfl) (by simp) ?_
        refine AllReadyH.cons (o := { dst := some 29, op := Op.call { callee := Callee.value (Operand.func 42), args := #[Operand.tmp 24, Operand.tmp 28], argTypes := #[39, 42] }, type := 4, pos := _, after := #[{ on := 2, ground := Ground.data }, { on := 6, ground := Ground.data }, { on := 6, ground := Ground.chain }], guard := none }) rfl (fun K hK => ?_) AllReadyH.nil
        go_simp
        with_reducible refine HBIT.out.mono ?_
        rintro e w9 ⟨rfl, hb9⟩
        have BB9 := Lib.hid (below_then BB8.out hb9)
        have O9 := Lib.hid (own_keep O7.out (below_then BB8.out hb9))
        clear hb9
        refine hK.out _ _ ?_ (fun hHeld => ?_)
        · trivial
        clear hK K
        try simp only [Act.put, List.setIfInBounds_toArray, List.set_cons_zero, List.set_cons_succ]
        refine wpAnyH_ready (rs := [8]) (by kernel_rfl) (by simp) ?_
        refine AllReadyH.cons (o := { dst := some 30, op := Op.buildSlice 42 1 #[(0, Operand.tmp 29)], type := 42, pos := _, after := #[{ on := 7, ground := Ground.data }], guard := none }) rfl (fun K hK => ?_) AllReadyH.nil
        go_simp
        refine hK.out _ _ ?_ (fun hHeld => ?_)
        · trivial
        clear hK K
        try simp only [Act.put, List.setIfInBounds_toArray, List.set_cons_zero, List.set_cons_succ]
        refine wpAnyH_ready (rs := [9]) (by kernel_rfl) (by simp) ?_
        refine AllReadyH.cons (o := { dst := some 31, op := Op.call { callee := Callee.builtin Builtin.append, args := #[Operand.tmp 22, Operand.tmp 30], argTypes := #[42, 42] }, type := 42, pos := _, after := #[{ on := 0, ground := Ground.data }, { on := 8, ground := Ground.data }, { on := 7, ground := Ground.chain }], guard := none }) rfl (fun K hK => ?_) AllReadyH.nil
        obtain ⟨A9, k9, u9, hrun9, hown9, hgr9, hat9⟩ := app_run 42 4 42 Tryz.underlying42 _ 1 1 bool_zero rfl (by decide) (by decide) w.heap.size A' (F + i) c' (bools (nvTo N.luts ins st i)) (O9.out.alloc (.cells #[.bool (bitB t bs)] 4)) ⟨w9.heap.size, 0, none⟩ 1 (bools [bitB t bs]) (rd_of_blk (cs := bools [bitB t bs]) (Blk.made w9 4 #[.bool (bitB t bs)]) 1 1 rfl) (fun u hu => by obtain ⟨x, -, rfl⟩ := List.mem_map.1 hu; rfl) (by omega) (by have := B7.out.size; have := BB9.out.size; simp; omega)
        refine step_app_run (by rfl) (.tmp 22) (.tmp 30) 42 42 (by rfl) (.slice A' (F + i) c') (.slice (some ⟨w9.heap.size, 0, none⟩) 1 1) (by rfl) (by rfl) hrun9 ?_
        refine hK.out _ _ ?_ (fun hHeld => ?_)
        · trivial
        clear hK K
        try simp only [Act.put, List.setIfInBounds_toArray, List.set_cons_zero, List.set_cons_succ]
        refine wpAnyH_ready (rs := [10]) (by kernel_rfl) (by simp) ?_
        refine AllReadyH.cons (o := { dst := some 7, op := Op.assign (Operand.tmp 31), type := 42, pos := _, after := #[{ on := 9, ground := Ground.data }, { on := 9, ground := Ground.chain }, { on := 0, ground := Ground.phase }, { on := 1, ground := Ground.phase }, { on := 2, ground := Ground.phase }, { on := 3, ground := Ground.phase }, { on := 4, ground := Ground.phase }, { on := 5, ground := Ground.phase }, { on := 6, ground := Ground.phase }, { on := 7, ground := Ground.phase }, { on := 8, ground := Ground.phase }, { on := 9, ground := Ground.phase }], guard := none }) rfl (fun K hK => ?_) AllReadyH.nil
        go_simp
        refine hK.out _ _ ?_ (fun hHeld => ?_)
        · trivial
        clear hK K
        try simp only [Act.put, List.setIfInBounds_toArray, List.set_cons_zero, List.set_cons_succ]
        refine wpAnyH_done (by kernel_rfl) ?_ _
        have HO9 := Lib.hid (show u9.ownsRow w.heap.size 4 1 (.slice A9 (F + i + 1) k9) (F + i + 1) (bools (nvTo N.luts ins st (i + 1))) from by rw [HNX.out, bools_append]; exact hown9)
        have HB9 := Lib.hid ((below_then (below_then B7.out BB9.out) (below_new w9 (.cells #[.bool (bitB t bs)] 4))).grown hgr9 (below_then (below_then B7.out BB9.out) (below_new w9 (.cells #[.bool (bitB t bs)] 4))).size (fun q hq => own_base O9.out (by rw [own_blk]; exact hq)))
        clear hrun9 hown9 hgr9 hat9
        go_wp2_with fail
        go_roundw
        case rel => exact ⟨i + 1, A9, k9, by omega, by go_num, rfl, HO9.out, HB9.out⟩
        case measure => simp [intOf]; omega
end Go.Proofs.YtaajnmggbhnndaaGreatDoor
