/- slices.Chunk at []bool, 8 at a time: what it hands back, and what its closure yields. -/
import Derived.RangeFuncBox
import Derived.RangeFuncLeaves
import Derived.RangeFuncWrites
import Derived.Shelf.Abstract
import Derived.WalkKit
import Derived.OwnWalkIn
import Derived.TacticsInMore
import Derived.LoopNIn
import Derived.LoopIn
import Derived.RegionIn
import Derived.BigQuiet
import Derived.Deep.RegionHeld3
import Derived.Deep.RegionWith
import Derived.Deep.QuietTactic
import Derived.Test.YtoloaecbfglaeaaGreatRput
namespace Go.Proofs.YtoloaecbfglaeaaGreat
open Go.RowKit Go.Shelf
set_option linter.unusedVariables false
set_option linter.unusedSimpArgs false
attribute [local go_sem] Oper.semAt_some

theorem chunk_any (A : Option Addr) (n c : Nat) (w : World) :
    Calls Tryz.prog 45 #[.slice A n c, .int .i64 8] w fun e w' => e = .returned (.func (.func 75) #[] #[.pointer (some ⟨w.heap.size, 0, none⟩), .pointer (some ⟨w.heap.size + 1, 0, none⟩)]) ∧ w' = (w.alloc (.cells #[.slice A n c] 25)).alloc (.cells #[.int .i64 8] 3) := by
  have hmf : ∀ (fn : Fn) (first cap : Array Value) (w : World), (Instr.makeFunc fn first cap).run Tryz.prog w = .ok (.func fn first cap) w := fun _ _ _ _ => rfl
  go_enter Tryz.func45, Tryz.ntmps45
  go_wp2_with fail
  go_ret
  exact ⟨rfl, rfl⟩

/-- how long the chunk at q is -/
def chL (n q : Nat) : Nat := min 8 (n - 8 * q)
/-- the chunk at q -/
def chV (A : Option Addr) (n q : Nat) : Value := .slice (A.map fun a => a.add (8 * q)) (chL n q) (chL n q)
/-- what a round must keep: the closure's two boxes -/
def K2 (Bs Bn : Nat) (W W' : World) : Prop := W'.heap[Bs]? = W.heap[Bs]? ∧ W'.heap[Bn]? = W.heap[Bn]?
theorem K2.trans {Bs Bn : Nat} {A B C : World} (h : K2 Bs Bn A B) (k : K2 Bs Bn B C) : K2 Bs Bn A C := ⟨k.1.trans h.1, k.2.trans h.2⟩
theorem K2.put {Bs Bn : Nat} {w : World} (h1 : Bs < w.heap.size) (h2 : Bn < w.heap.size) (W : World) (l : Nat) (o o' : Obj) (hl : w.heap.size ≤ l) (_ : W.heap[l]? = some o) (_ : o.isCells = false) (_ : o.isWalk = false) : K2 Bs Bn W (W.putObj l o') :=
  ⟨World.putObj_heap_other (by omega), World.putObj_heap_other (by omega)⟩
theorem K2.of_below {Bs Bn b : Nat} {W W' : World} (h1 : Bs < b) (h2 : Bn < b) (h : Below b W W') : K2 Bs Bn W W' := ⟨h.block Bs h1, h.block Bn h2⟩
theorem boxed_below {wx wy : World} {b : Nat} {t : TypeId} {v : Value} (h : Boxed wx b t v) (hb : Below wx.heap.size wx wy) : Boxed wy b t v := (hb.block b h.lt).trans h
set_option maxRecDepth 100000 in
set_option maxHeartbeats 2000000 in
theorem chunk1 (m : Nat) (hm : 1 ≤ m) (Bs Bn : Nat) (A : Option Addr) (n c : Nat) (hA : A = none → c = 0) (hc : n ≤ c) (hn : n ≤ 100000000) (w : World) (hBs : Boxed w Bs 25 (.slice A n c)) (hBn : Boxed w Bn 3 (.int .i64 8)) :
    SeqStopsK Fence.wide m Tryz.prog 75 #[.pointer (some ⟨Bs, 0, none⟩), .pointer (some ⟨Bn, 0, none⟩)] (fun q : Nat => #[chV A n q]) (K2 Bs Bn) (fun ys => ys = List.range ((n + 7) / 8)) (fun _ => True) ((n + 7) / 8) w := by
  intro l J Jx W hW hJ hJx hY h0
  refine callsIn_of_wp Tryz.func75 rfl trivial ?_ rfl
  simp only [Tryz.ntmps75, List.size_toArray, List.length_cons, List.length_nil, Nat.reduceAdd, Nat.reduceSub, Array.replicate_succ, Array.replicate_zero, List.push_toArray, List.append_toArray, List.nil_append, List.cons_append]
  have X1 := Lib.hid (boxed_below hBs hW)
  have X2 := Lib.hid (boxed_below hBn hW)
  have b1 := X1.out.cell
  have b2 := X2.out.cell
  have HY := Lib.hid hY
  have HJ := Lib.hid hJ
  clear hW hY hJ hJx
  gi_wp2
  gi_loopw [4] (fun i wr => ∃ q : Nat, 8 * q ≤ n + 7 ∧ i = .int .i64 ((8 * q : Nat) : Int) ∧ J (List.range q) wr ∧ K2 Bs Bn W wr) (fun i _ => n - (intOf i).toNat)
  case atStart => exact ⟨0, by omega, rfl, h0, rfl, rfl⟩
  case round =>
    obtain ⟨q, hq, rfl, hJs, hnx⟩ := hrel
    have Y1 : Hid (Boxed wr Bs 25 (.slice A n c)) := Lib.hid (hnx.1.trans X1.out)
    have Y2 : Hid (Boxed wr Bn 3 (.int .i64 8)) := Lib.hid (hnx.2.trans X2.out)
    have d1 := Y1.out.cell
    have d2 := Y2.out.cell
    have HNX := Lib.hid hnx
    clear hnx
    by_cases hlt : 8 * q < n
    · cases A with
      | none => have := hA rfl; omega
      | some ad =>
        have hyk := fun k : Nat => HY.out _ q (wr.drewN k) (HJ.out _ _ _ none hJs ⟨rfl, rfl, rfl, Nat.le_refl _, fun _ _ _ => rfl⟩ (fun r h => by cases h)) (by rw [List.length_range]; omega)
        have HYK := Lib.hid hyk
        clear hyk
        obtain ⟨i8, hi8⟩ : ∃ i8, 8 * q = i8 := ⟨_, rfl⟩
        have HI8 := Lib.hid hi8
        have hch : chV (some ad) n q = .slice (some (ad.add i8)) (min 8 (n - i8)) (min 8 (n - i8)) := by unfold chV chL; rw [hi8]; rfl
        rw [hi8] at hlt hq ⊢
        obtain ⟨e8, he8⟩ : ∃ e8, min 8 (n - i8) = e8 := ⟨_, rfl⟩
        have hb8 : i8 + e8 ≤ n := by omega
        have he9 : e8 ≤ 8 := by omega
        rw [he8] at hch
        have HCH := Lib.hid hch
        have hmin : min (8 : Int) ((n - i8 : Nat) : Int) = (e8 : Int) := by omega
        have g0 : (0 : Int) ≤ (i8 : Int) := by omega
        have g1 : (i8 : Int) ≤ (n : Int) := by omega
        have g2 : ((n : Int) - (i8 : Int)) = ((n - i8 : Nat) : Int) := by omega
        have g3 : i8 ≤ n := by omega
        have g4 : i8 ≤ c := by omega
        have g5 : ¬ e8 = 0 := by omega
        have g6 : 0 < e8 := by omega
        have g7 : ¬ c - i8 = 0 := by omega
        have g8 : ¬ n - i8 = 0 := by omega
        clear hch he8 hi8
        gi_wp2
        refine wpIn_wide.2 ?_
        go_quiet (fail)
        obtain ⟨fn, tmps, assign, body, hy, hR⟩ := HYK.out nq
        rw [HCH.out] at hy
        clear hmin g2
        gi_wp2
        refine hR.mono ?_
        rintro e W3 (⟨rfl, hJ3, hk3⟩ | ⟨rfl, hJx3⟩)
        · have Y3 : Hid (Boxed W3 Bn 3 (.int .i64 8)) := Lib.hid (hk3.2.trans Y2.out)
          have HK3 := Lib.hid hk3
          clear hk3
          have hcell := Y3.out.cell
          have hrs : List.range q ++ [q] = List.range (q + 1) := List.range_succ.symm
          have HRS := Lib.hid hrs
          clear hrs
          gi_wp2
          go_roundw
          case rel => exact ⟨q + 1, by have := HI8.out; omega, by have := HI8.out; go_num, by rw [← HRS.out]; exact hJ3, HNX.out.trans ⟨HK3.out.1, HK3.out.2⟩⟩
          case measure => simp [intOf]; omega
        · gi_wp2
          refine bodyPost_ret (results_none rfl _ _ _) rfl ?_
          exact ⟨⟨_, rfl⟩, .inr ⟨_, trivial, hJx3⟩⟩
    · have hqe : q = (n + 7) / 8 := by omega
      have HQE := Lib.hid hqe
      have hd : decide (8 * q < n) = false := decide_eq_false hlt
      clear hqe
      obtain ⟨i8, hi8⟩ : ∃ i8, 8 * q = i8 := ⟨_, rfl⟩
      rw [hi8] at hd ⊢
      clear hi8
      gi_wp2
      go_end0
      exact ⟨⟨_, rfl⟩, .inl ⟨_, by rw [← HQE.out], hJs⟩⟩

set_option maxRecDepth 100000 in
set_option maxHeartbeats 2000000 in
/-- Put's deferred closure: the sum's four bytes behind whatever was put. -/
theorem put1 (m b base : Nat) (A : Option Addr) (k c : Nat) (L : List Nat) (w : World) (hB : Boxed w b 48 (.slice A k c)) (ho : w.ownsRow base 5 1 (.slice A k c) k (bys L)) (hl : ∀ x ∈ L, x < 256) (hbase : base ≤ w.heap.size) (hbb : b < base) (hk : k ≤ 1000000) :
    CallsDIn Fence.wide m Tryz.prog 41 #[.pointer (some ⟨b, 0, none⟩)] .returning w fun e u' w' => u' = .returning ∧ e = .returned (.tuple #[]) ∧ ∃ A' c', w'.cell? ⟨b, 0, none⟩ = some (.slice A' (k + 4) c') ∧ w'.ownsRow base 5 1 (.slice A' (k + 4) c') (k + 4) (bys (L ++ four (sumB L))) ∧ Below b w w' := by
  have hlen : L.length = k := by have := ho.1; rw [bys_length] at this; omega
  have hs := sumB_lt L
  have hbs := fun (W : World) (hr : Rd W 1 A k c (bys L)) => bsum_any W A k c L hr hl (by omega)
  have hbp : ∀ (W : World) (hw : W.ownsRow base 5 1 (.slice A k c) k (bys L)) (hb : base ≤ W.heap.size), Calls Tryz.prog 42 #[.slice A k c, .int .u32 (sumB L : Int), .int .i64 4] W fun e w' => ∃ A' c', e = .returned (.slice A' (k + 4) c') ∧ Below base W w' ∧ w'.ownsRow base 5 1 (.slice A' (k + 4) c') (k + 4) (bys (L ++ four (sumB L))) := by
    intro W hw hb
    have := bput_any W base A k c L hw hb (sumB L) 4 hs (by omega) (by omega)
    rw [bigTo_four] at this
    exact this
  have HBS := Lib.hid hbs
  have HBP := Lib.hid hbp
  have HO := Lib.hid ho
  have HB := Lib.hid hB
  have c0 := hB.cell
  have f0 := hB.frozen
  clear hbs hbp ho hB hl
  refine callsDIn_of_wp Tryz.func41 rfl trivial ?_
  simp only [Tryz.ntmps41, List.size_toArray, List.length_cons, List.length_nil, Nat.reduceAdd, Nat.reduceSub, Array.replicate_succ, Array.replicate_zero, List.push_toArray, List.append_toArray, List.nil_append, List.cons_append]
  refine wpIn_wide.2 ?_
  go_wp2_with fail
  go_region_with (first
    | (go_at_call 43; refine (HBS.out _ ?_).mono ?_; exact Rd.of_own (own_drewN HO.out 1); rintro e w1 ⟨rfl, rfl⟩)
    | (go_at_call 42; refine (HBP.out _ ?_ ?_).mono ?_; exact own_drewN HO.out 1; exact hbase; rintro e w1 ⟨A1, c1, rfl, hb1, ho1⟩; have d0 := (hb1.cell (p := ⟨b, 0, none⟩) hbb).trans c0; have e0 := (hb1.frozen (p := ⟨b, 0, none⟩) hbb).trans f0; have hb1 : Below base w w1 := ⟨hb1.os, hb1.tape, hb1.output, hb1.size, hb1.block⟩; have HB1 := Lib.hid hb1; have HO1 := Lib.hid ho1; clear hb1 ho1))
  all_goals
    go_end0
    have hne : (Value.slice A1 (k + 4) c1).ownBlock ≠ some b := fun e => by have := own_base HO1.out e; omega
    refine ⟨rfl, A1, c1, World.cell?_setCell_same' _ _ _ (by rw [d0]; rfl), ?_, ?_⟩
    · exact HO1.out.kept (grownBy_setCell' w1 b _) (.inr hne)
    · exact (HB1.out.mono (Nat.le_of_lt hbb)).setCell (p := ⟨b, 0, none⟩) (Nat.le_refl _) _
end Go.Proofs.YtoloaecbfglaeaaGreat
