/- A map of numbers, as a function; the closures of filigree/lutmap.Map. · The closures of filigree/lutmap.Map, and rows; the rows that gates' first cuts lie in. · What lies in memory while filigree/lutmap.Map goes on. -/
import Derived.Test.YtaajnmggbhnndaaGreatDoorZCTab
import Derived.Test.YtaajnmggbhnndaaGreatDoorZMapG
import Derived.Test.YtaajnmggbhnndaaGreatDoorZLVals
import Derived.Test.YtaajnmggbhnndaaGreatDoorZCAll
import Derived.Test.YtaajnmggbhnndaaGreatDoorZLLev
namespace Go.Proofs.YtaajnmggbhnndaaGreatDoor
open Go.RowKit Go.Maps
set_option linter.unusedVariables false
set_option linter.unusedSimpArgs false
theorem zero_int (w : World) : (zeroValue 3).run Tryz.prog w = .ok (.int .i64 0) w := by kernel_rfl
/-- what a map holds -/
structure HoldsI (D : DataW Unit) (M : Nat → Option Nat) : Prop where
  map : IsMap D
  has : ∀ n : Nat, Maps.has D (.int .i64 (n : Int)) = (M n).isSome
  at_ : ∀ (n v : Nat), M n = some v → ∀ z, D.atKey (.int .i64 (n : Int)) z = .lit (.int .i64 (v : Int))
theorem HoldsI.start : HoldsI (.map []) (fun _ => none) := ⟨isMap_empty, fun n => rfl, fun n v h => by cases h⟩
theorem HoldsI.put {D : DataW Unit} {M : Nat → Option Nat} (h : HoldsI D M) (n v : Nat) : HoldsI (D.put (.int .i64 (n : Int)) (.lit (.int .i64 (v : Int)))) (Cut.upd M n v) := by
  refine ⟨h.map.put _ _, fun m => ?_, fun m u hm z => ?_⟩
  · unfold Cut.upd
    by_cases e : m = n
    · subst e; rw [has_put_same h.map (key_lit _), if_pos rfl]; rfl
    · rw [has_put_other (fun hx => e (by simp at hx; omega)), if_neg e]; exact h.has m
  · unfold Cut.upd at hm
    by_cases e : m = n
    · subst e; rw [if_pos rfl] at hm; cases hm; exact atKey_put_same h.map (key_lit _) _ _
    · rw [if_neg e] at hm
      rw [atKey_put_other (fun hx => e (by simp at hx; omega))]
      exact h.at_ m u hm z
/-- block B is a map of cap entries at most that holds M -/
def MapI (w : World) (B cap : Nat) (M : Nat → Option Nat) : Prop := ∃ D : DataW Unit, w.ownsMap Tryz.prog 3 (plainElem (H := Unit) Tryz.prog 3) B cap D ∧ HoldsI D M
theorem MapI.lt {w : World} {B cap : Nat} {M : Nat → Option Nat} (h : MapI w B cap M) : B < w.heap.size := let ⟨_, h, _⟩ := h; h.lt
theorem MapI.keep {w w' : World} {B cap : Nat} {M : Nat → Option Nat} (h : MapI w B cap M) (hb : w'.heap[B]? = w.heap[B]?) : MapI w' B cap M := by
  obtain ⟨D, ⟨es, clock, h1, h2⟩, hD⟩ := h
  exact ⟨D, ⟨es, clock, hb.trans h1, h2⟩, hD⟩
theorem MapI.below {w w' : World} {B cap : Nat} {M : Nat → Option Nat} (h : MapI w B cap M) (hb : Below w.heap.size w w') : MapI w' B cap M := h.keep (hb.block B h.lt)
theorem MapI.update {w : World} {B cap : Nat} {M : Nat → Option Nat} (h : MapI w B cap M) (hc : cap < maxLen) (n v : Nat) (hn : n < 9223372036854775808) (hv : v < 9223372036854775808) :
    ∃ w', (Instr.mapUpdate 66 (.map (some B)) (.int .i64 (n : Int)) (.int .i64 (v : Int))).run Tryz.prog w = .ok () w' ∧ MapI w' B (cap + 1) (Cut.upd M n v) ∧ w.grownBy w' (some B) := by
  obtain ⟨D, hown, hD⟩ := h
  have hwn : (Lit.int .i64 (n : Int)).wf = true := WalkArith.wf_i64 (by omega)
  have hwv : (Lit.int .i64 (v : Int)).wf = true := WalkArith.wf_i64 (by omega)
  have hk : keyOf Tryz.prog 3 (.int .i64 (n : Int)) = some (.int .i64 (n : Int)) := keyOf_int_mk Tryz.underlying3 hwn
  obtain ⟨w', h1, h2, h3⟩ := hown.update key_int Tryz.underlying66 hc hk (plainElem_int Tryz.underlying3 hwv)
  exact ⟨w', h1, ⟨_, h2, hD.put n v⟩, h3⟩
theorem MapI.made (w : World) : MapI (w.alloc (.map #[] 0)) w.heap.size 0 (fun _ => none) := ⟨_, World.ownsMap_made _ _ _ _, HoldsI.start⟩
end Go.Proofs.YtaajnmggbhnndaaGreatDoor

namespace Go.Proofs.YtaajnmggbhnndaaGreatDoor
open Go.RowKit Go.Maps
set_option linter.unusedVariables false
set_option linter.unusedSimpArgs false
/-- a row of bits, as a block -/
abbrev BitsB (w : World) (b : Nat) (nd : List Bool) : Prop := Blk w b 4 (bools nd).toArray
theorem BitsB.at_ {w : World} {b : Nat} {nd : List Bool} (h : BitsB w b nd) {a : Nat} (ha : a < nd.length) : w.cell? ⟨b, a, none⟩ = some (.bool (nd.getD a false)) := by
  rw [h.cell a]
  simp [bools, List.getD_eq_getElem?_getD, List.getElem?_eq_getElem ha]
theorem BitsB.set {w : World} {b : Nat} {nd : List Bool} (h : BitsB w b nd) (a : Nat) (y : Bool) : BitsB (w.setCell ⟨b, a, none⟩ (.bool y)) b (nd.set a y) := by
  have h' := h.put a (.bool y)
  rw [List.setIfInBounds_toArray, show (bools nd).set a (.bool y) = bools (nd.set a y) by simp [bools, List.map_set]] at h'
  exact h'
theorem tells_snoc (F : Nat) (nd : List Bool) (l : List Nat) (a : Nat) : tells F nd (l ++ [a]) = tellN F (tells F nd l) a := by
  unfold tells; rw [List.foldl_append]; rfl
theorem tells_app (F : Nat) (nd : List Bool) (l m : List Nat) : tells F nd (l ++ m) = tells F (tells F nd l) m := by
  unfold tells; rw [List.foldl_append]
def ToldOut (F b a : Nat) (nd : List Bool) (w : World) (r : Ending) (w' : World) : Prop := r = .returned (.tuple #[]) ∧ BitsB w' b (tellN F nd a) ∧ Chg w w' (fun k => k = b)
theorem told_end {F b a : Nat} {nd : List Bool} {w : World} (h : BitsB w b nd) (y : Bool) (hy : mayL F a = y) : ToldOut F b a nd w (.returned (.tuple #[])) (w.drew.setCell ⟨b, a, none⟩ (.bool y)) := by
  refine ⟨rfl, ?_, ?_⟩
  · unfold tellN; rw [hy]
    exact BitsB.set (w := w.drew) h a y
  · have := Chg.set w.drew b a (.bool y)
    exact ⟨this.os, this.tape, this.output, this.size, this.block⟩
set_option maxRecDepth 100000 in
set_option maxHeartbeats 2000000 in
/-- a literal is told -/
theorem told_any (g9 g8 b : Nat) (F n a : Nat) (nd : List Bool) (w : World) (h9 : w.cell? ⟨g9, 0, none⟩ = some (.slice (some ⟨b, 0, none⟩) n n)) (h8 : w.cell? ⟨g8, 0, none⟩ = some (.int .i64 (F : Int)))
    (ho : BitsB w b nd) (hl : nd.length = n) (ha : a < n) (hn : n ≤ 1000000) (hF : F ≤ 1000000) (hinv : InvN F nd) :
    Calls Tryz.prog 18 #[.int .i64 (a : Int), .pointer (some ⟨g9, 0, none⟩), .pointer (some ⟨g8, 0, none⟩)] w (ToldOut F b a nd w) := by
  have d0 := ho.at_ (a := a) (by omega)
  have f0 := ho.free a
  have HO := Lib.hid ho
  have HM := Lib.hid (show mayL F a = (decide (a % 2 = 1) || decide (F ≤ a / 2)) from rfl)
  have HI := Lib.hid (hinv a)
  have hal : (a : Int) < (n : Int) := by omega
  have hand1 := and1_i64 a (by omega)
  obtain ⟨d, hd⟩ : ∃ d, a / 2 = d := ⟨_, rfl⟩
  have hdi : (a : Int) / 2 = (d : Int) := by omega
  rw [hd] at HM
  clear ho hl hinv hd
  generalize nd.getD a false = y at d0 HI
  cases y with
  | true =>
    have HY := Lib.hid (HI.out rfl)
    clear HI HM
    go_enter Tryz.func18, Tryz.ntmps18
    go_region
    go_end0
    exact told_end HO.out true HY.out
  | false =>
    clear HI
    rcases Nat.mod_two_eq_zero_or_one a with e | e
    · rw [e] at hand1 HM
      by_cases hF2 : F ≤ d
      · have hF3 : (F : Int) ≤ (d : Int) := by omega
        have HY := Lib.hid (show mayL F a = true by rw [HM.out, decide_eq_true hF2, Bool.or_true])
        clear HM
        go_enter Tryz.func18, Tryz.ntmps18
        go_region
        go_end0
        exact told_end HO.out true HY.out
      · have hF3 : ¬ (F : Int) ≤ (d : Int) := by omega
        have HY := Lib.hid (show mayL F a = false by rw [HM.out, decide_eq_false hF2]; rfl)
        clear HM
        go_enter Tryz.func18, Tryz.ntmps18
        go_region
        go_end0
        exact told_end HO.out false HY.out
    · rw [e] at hand1 HM
      have HY := Lib.hid (show mayL F a = true by rw [HM.out]; rfl)
      clear HM
      go_enter Tryz.func18, Tryz.ntmps18
      go_region
      go_end0
      exact told_end HO.out true HY.out
set_option maxRecDepth 100000 in
set_option maxHeartbeats 1000000 in
/-- a literal's node -/
theorem mnode_any (g B cap a : Nat) (M : Nat → Option Nat) (w : World) (hg : w.cell? ⟨g, 0, none⟩ = some (.map (some B))) (hm : MapI w B cap M) (ha : a < 1000000000) :
    Calls Tryz.prog 19 #[.int .i64 (a : Int), .pointer (some ⟨g, 0, none⟩)] w fun r w' => r = .returned (.int .i64 (((M a).getD (a / 2) : Nat) : Int)) ∧ w = w' := by
  have hwfk : (Lit.int .i64 (a : Int)).wf = true := WalkArith.wf_i64 (by omega)
  have hkey : keyOf Tryz.prog 3 (.int .i64 (a : Int)) = some (.int .i64 (a : Int)) := keyOf_int_mk Tryz.underlying3 hwfk
  have HK := Lib.hid hkey
  obtain ⟨D, hown, hD⟩ := hm
  have HOWN := Lib.hid hown
  have hhas := hD.has a
  clear hwfk hkey hown
  cases hMn : M a with
  | some v =>
    rw [hMn] at hhas
    have hh : Maps.has D (.int .i64 (a : Int)) = true := hhas
    have hat := hD.at_ a v hMn (.lit (.int .i64 0))
    have HAT := Lib.hid hat
    simp only [Option.getD_some]
    clear hat hhas hMn hD
    go_enter Tryz.func19, Tryz.ntmps19
    go_wp2_with (at_lookup; refine wpList_lookup_own_ok_int _ rfl _ _ 66 rfl 3 3 .i64 key_int Tryz.underlying66 Tryz.underlying3 (zero_int _) B cap D rfl HOWN.out _ _ rfl HK.out ?_; intro c hat hwc)
    have hcv : c = (v : Int) := by have := hat.symm.trans HAT.out; simpa using this
    subst hcv
    go_ret
    exact ⟨rfl, rfl⟩
  | none =>
    rw [hMn] at hhas
    have hh : Maps.has D (.int .i64 (a : Int)) = false := hhas
    simp only [Option.getD_none]
    obtain ⟨d, hd⟩ : ∃ d, a / 2 = d := ⟨_, rfl⟩
    have hdi : (a : Int) / 2 = (d : Int) := by omega
    rw [hd]
    clear hhas hMn hD hd
    go_enter Tryz.func19, Tryz.ntmps19
    go_wp2_with (at_lookup; refine wpList_lookup_own_ok_int _ rfl _ _ 66 rfl 3 3 .i64 key_int Tryz.underlying66 Tryz.underlying3 (zero_int _) B cap D rfl HOWN.out _ _ rfl HK.out ?_; intro c hat hwc)
    go_ret
    exact ⟨rfl, rfl⟩
end Go.Proofs.YtaajnmggbhnndaaGreatDoor

namespace Go.Proofs.YtaajnmggbhnndaaGreatDoor
open Go.RowKit Go.Maps
set_option linter.unusedVariables false
set_option linter.unusedSimpArgs false
theorem bool_infoA : (Tryz.prog.info? 4).map (fun i => (i.zero, i.size, i.bytes)) = some (some (.bool false), 1, 1) := by kernel_rfl
theorem bool_cells (b : Bool) : (Value.bool b).cells = #[.bool b] := rfl
theorem back_len' (M : MP) (j n : Nat) (h : 2 * M.N = n) : (M.back j).length = n := (M.back_len j).trans h
theorem lits_take {α : Type} (f : α → Nat) (l : List α) {i : Nat} (h : i < l.length) : (l.map f).take (i + 1) = (l.map f).take i ++ [f l[i]] := by
  rw [List.take_succ_eq_append_getElem (by rw [List.length_map]; exact h), List.getElem_map]
theorem tells_len' {F : Nat} {nd : List Bool} {l : List Nat} {n : Nat} (h : nd.length = n) : (tells F nd l).length = n := (tells_len F l nd).trans h
/-- the literal in the i-th place -/
theorem lit_nat {G : AG} (hok : G.ok) {a : Int} (ha : a ∈ G.ou ∨ ∃ f ∈ G.fl, f.1 = a) : ∃ m : Nat, a = (m : Int) ∧ m < 2 * G.cn ∧ a.toNat = m := by
  have := hok.lit ha
  exact ⟨a.toNat, by omega, this.2, rfl⟩
/-- while literals are told: what was there at w2, the boxes of the first gate's node and of the row, the row -/
structure P1 (w2 : World) (g9 m F : Nat) (nd : List Bool) (wx : World) : Prop where
  below : Below w2.heap.size w2 wx
  fst : Blk wx w2.heap.size 3 #[.int .i64 (F : Int)]
  box : Blk wx g9 42 #[.slice (some ⟨w2.heap.size + 1, 0, none⟩) m m]
  bits : BitsB wx (w2.heap.size + 1) nd
  lt : w2.heap.size + 1 < g9
  len : nd.length = m
  inv : InvN F nd
theorem P1.keep {w2 wx wy : World} {g9 m F : Nat} {nd : List Bool} (h : P1 w2 g9 m F nd wx) (hb : Below wx.heap.size wx wy) : P1 w2 g9 m F nd wy :=
  ⟨h.below.trans (hb.mono h.below.size), h.fst.keep hb, h.box.keep hb, Blk.keep h.bits hb, h.lt, h.len, h.inv⟩
theorem P1.call {w2 wx : World} {g9 m F a : Nat} {nd : List Bool} (h : P1 w2 g9 m F nd wx) (ha : a < m) (hm : m ≤ 1000000) (hF : F ≤ 1000000) :
    Calls Tryz.prog 18 #[.int .i64 (a : Int), .pointer (some ⟨g9, 0, none⟩), .pointer (some ⟨w2.heap.size, 0, none⟩)] wx fun r w' => r = .returned (.tuple #[]) ∧ P1 w2 g9 m F (tellN F nd a) w' := by
  refine (told_any g9 w2.heap.size (w2.heap.size + 1) F m a nd wx (h.box.cell 0) (h.fst.cell 0) h.bits h.len ha hm hF h.inv).mono ?_
  rintro r w' ⟨hr, hb, hc⟩
  exact ⟨hr, hc.below h.below h.below.size (fun k hk => by rw [hk]; omega), hc.blk h.fst (by omega), hc.blk h.box (by have := h.lt; omega), hb, h.lt, (tellN_len _ _ _).trans h.len, h.inv.tell a⟩
/-- which literals have a node, of the first -/
def MP.madeTo (M : MP) (n : Nat) : Nat → Option Nat := fun a => if a < n ∧ M.nd.getD a false = true then some (M.F + M.idx a) else none
theorem MP.madeTo_at (M : MP) {n a : Nat} (h : a < n) : (M.madeTo n a).getD (a / 2) = M.at_ a := by
  unfold MP.madeTo MP.at_
  by_cases hn : M.nd.getD a false = true
  · rw [if_pos ⟨h, hn⟩, if_pos hn]; rfl
  · rw [if_neg (fun x => hn x.2), if_neg hn]; rfl
theorem MP.madeTo_no (M : MP) {n : Nat} (h : M.nd.getD n false = false) : M.madeTo (n + 1) = M.madeTo n := by
  funext a
  unfold MP.madeTo
  by_cases hn : M.nd.getD a false = true
  · by_cases ha : a < n
    · rw [if_pos ⟨by omega, hn⟩, if_pos ⟨ha, hn⟩]
    · rw [if_neg (fun x => ?_), if_neg (fun x => ha x.1)]
      obtain rfl : a = n := by omega
      rw [h] at hn; cases hn
  · rw [if_neg (fun x => hn x.2), if_neg (fun x => hn x.2)]
theorem MP.madeTo_yes (M : MP) {n : Nat} (h : M.nd.getD n false = true) : M.madeTo (n + 1) = Cut.upd (M.madeTo n) n (M.F + M.idx n) := by
  funext a
  unfold MP.madeTo Cut.upd
  by_cases e : a = n
  · subst e; rw [if_pos rfl, if_pos ⟨by omega, h⟩]
  · rw [if_neg e]
    by_cases hn : a < n ∧ M.nd.getD a false = true
    · rw [if_pos ⟨by omega, hn.2⟩]; exact (if_pos hn).symm
    · rw [if_neg (fun x => hn ⟨by omega, x.2⟩)]; exact (if_neg hn).symm
theorem MP.madeTo_zero (M : MP) : M.madeTo 0 = fun _ => none := by
  funext a; unfold MP.madeTo; rw [if_neg (fun x => absurd x.1 (Nat.not_lt_zero _))]
theorem litsTo_yes {nd : List Bool} {n : Nat} (h : nd.getD n false = true) : litsTo nd (n + 1) = litsTo nd n ++ [n] := by rw [litsTo, if_pos h]
theorem litsTo_no {nd : List Bool} {n : Nat} (h : nd.getD n false = false) : litsTo nd (n + 1) = litsTo nd n := by rw [litsTo, if_neg (by rw [h]; decide)]
theorem lut_info : (Tryz.prog.info? 41).map (fun i => (i.zero, i.size, i.bytes)) = some (some (.agg #[.slice none 0 0, .int .u64 0]), 2, 32) := by kernel_rfl
/-- what a map's block is not -/
theorem own_map {w : World} {base B cap : Nat} {e : TypeId} {size n : Nat} {v : Value} {xs : List Value} {M : Nat → Option Nat} (h : w.ownsRow base e size v n xs) (hm : MapI w B cap M) : v.ownBlock ≠ some B := by
  intro e'
  obtain ⟨_, ⟨es, clock, h1, _⟩, _⟩ := hm
  obtain ⟨-, h2⟩ := h
  rcases h2 with h2 | ⟨g, c, cur, rfl, hg, hh, -⟩
  · rw [h2.1] at e'; cases e'
  · have e2 : g = B := Option.some.inj e'
    subst e2
    rw [h1] at hh
    cases hh
theorem blk_map {w : World} {g B cap : Nat} {t : TypeId} {cs : Array Value} {M : Nat → Option Nat} (h : Blk w g t cs) (hm : MapI w B cap M) : g ≠ B := by
  rintro rfl
  obtain ⟨_, ⟨es, clock, h1, _⟩, _⟩ := hm
  unfold Blk at h
  rw [h1] at h
  cases h
/-- while tables are made: what was there at w3, the net's box, the map's, the map, the tables -/
structure P2 (M : MP) (w3 : World) (I : Nat) (n p : Nat) (AL : Option Addr) (cL : Nat) (ls : List CT) (wx : World) : Prop where
  below : Below w3.heap.size w3 wx
  box : Blk wx w3.heap.size 32 #[.int .i64 (I : Int), .slice none 0 0, .slice AL ls.length cL, .slice none 0 0]
  mbox : Blk wx (w3.heap.size + 1 + 1) 66 #[.map (some (w3.heap.size + 1))]
  map : ∃ cap, cap ≤ n ∧ MapI wx (w3.heap.size + 1) cap (M.madeTo n)
  row : wx.ownsRow w3.heap.size 41 2 (.slice AL ls.length cL) ls.length (cutC ls)
  all : ∀ c ∈ ls, OwnL w3.heap.size wx c.1
  pcs : pcs ls = (litsTo M.nd p).map M.lut
theorem P2.keep {M : MP} {w3 wx wy : World} {I n p : Nat} {AL : Option Addr} {cL : Nat} {ls : List CT} (h : P2 M w3 I n p AL cL ls wx) (hb : Below wx.heap.size wx wy) : P2 M w3 I n p AL cL ls wy :=
  ⟨below_then h.below hb, h.box.keep hb, h.mbox.keep hb, let ⟨c, h1, h2⟩ := h.map; ⟨c, h1, h2.below hb⟩, own_keep h.row hb, fun c hc => OwnL.later (h.all c hc) hb, h.pcs⟩
theorem P2.node {M : MP} {w3 wx : World} {I n p a : Nat} {AL : Option Addr} {cL : Nat} {ls : List CT} (h : P2 M w3 I n p AL cL ls wx) (ha : a < n) (hn : n ≤ 1000000) :
    Calls Tryz.prog 19 #[.int .i64 (a : Int), .pointer (some ⟨w3.heap.size + 1 + 1, 0, none⟩)] wx fun r w' => r = .returned (.int .i64 (M.at_ a : Int)) ∧ wx = w' := by
  obtain ⟨cap, hc, hm⟩ := h.map
  have h' := mnode_any (w3.heap.size + 1 + 1) (w3.heap.size + 1) cap a (M.madeTo n) wx (h.mbox.cell 0) hm (by omega)
  rw [M.madeTo_at ha] at h'
  exact h'
theorem P2.len {M : MP} {w3 wx : World} {I n p : Nat} {AL : Option Addr} {cL : Nat} {ls : List CT} (h : P2 M w3 I n p AL cL ls wx) : ls.length = (litsTo M.nd p).length := by
  have h1 := congrArg List.length h.pcs
  rw [List.length_map] at h1
  have h2 : (_root_.Go.Proofs.YtaajnmggbhnndaaGreatDoor.pcs ls).length = ls.length := by unfold _root_.Go.Proofs.YtaajnmggbhnndaaGreatDoor.pcs; rw [List.length_map]
  omega
/-- the map knows one more -/
theorem P2.know {M : MP} {w3 wx w7 : World} {I n p : Nat} {AL : Option Addr} {cL : Nat} {ls : List CT} (h : P2 M w3 I n p AL cL ls wx) (hnd : M.nd.getD n false = true) (hn : n ≤ 1000000)
    {cap : Nat} (hc : cap ≤ n) (hm : MapI wx (w3.heap.size + 1) cap (M.madeTo n)) (hm7 : MapI w7 (w3.heap.size + 1) (cap + 1) (Cut.upd (M.madeTo n) n (M.F + M.idx n))) (hg : wx.grownBy w7 (some (w3.heap.size + 1))) : P2 M w3 I (n + 1) p AL cL ls w7 := by
  have hC := Chg.of_grown hg
  refine ⟨hC.below h.below h.below.size (fun k hk => by simp at hk; omega), hC.blk h.box (by simp), hC.blk h.mbox (by simp), ⟨cap + 1, by omega, by rw [M.madeTo_yes hnd]; exact hm7⟩, hC.own h.row (fun g e hk => own_map h.row hm (by rw [e]; simpa using hk)), fun c hcc => hC.own (h.all c hcc) (fun g e hk => own_map (h.all c hcc) hm (by rw [e]; simpa using hk)), h.pcs⟩
/-- one more table -/
theorem P2.push {M : MP} {w3 wx u9 : World} {I n p : Nat} {AL A9 A : Option Addr} {cL c9 cc T : Nat} {ins : List Int} {ls : List CT} {o : Obj} (h : P2 M w3 I n p AL cL ls wx) (hnd : M.nd.getD p false = true) (hct : OwnL w3.heap.size wx (A, cc, ins)) (hl : M.lut p = (ins, T))
    (hown : u9.ownsRow w3.heap.size 41 2 (.slice A9 (ls.length + 1) c9) (ls.length + 1) (cutC ls ++ [.slice A ins.length cc, .int .u64 (T : Int)])) (hgr : (wx.alloc o).grownBy u9 (blkOf AL)) :
    P2 M w3 I n (p + 1) A9 c9 (ls ++ [((A, cc, ins), T)]) (u9.setCell ⟨w3.heap.size, 2, none⟩ (.slice A9 (ls.length + 1) c9)) := by
  have h1 := h.keep (below_new wx o)
  have hct1 := OwnL.later (l := (A, cc, ins)) hct (below_new wx o)
  generalize wx.alloc o = w1 at h1 hct1 hgr
  have hC := Chg.of_grown hgr
  have hne : ∀ g, (Value.slice AL ls.length cL).ownBlock ≠ some g → some g ≠ blkOf AL := fun g h e => h (by rw [own_blk]; exact e.symm)
  have hbox := h1.box.grown hgr (hne _ (own_other h1.row h1.box (by decide)))
  have hmb := h1.mbox.grown hgr (hne _ (own_other h1.row h1.mbox (by decide)))
  have hbl : Below w3.heap.size w3 u9 := hC.below h1.below h1.below.size (fun k hk => own_base h1.row (by rw [own_blk]; exact hk.symm))
  obtain ⟨cap, hc, hm⟩ := h1.map
  have hm9 : MapI u9 (w3.heap.size + 1) cap (M.madeTo n) := hm.keep (hgr.block _ hm.lt (hne _ (own_map h1.row hm)))
  have hall : ∀ c ∈ ls ++ [((A, cc, ins), T)], OwnL w3.heap.size u9 c.1 := fun c hc => by
    rcases List.mem_append.1 hc with hc | hc
    · exact own_grown (h1.all c hc) h1.row (by decide) hgr
    · rw [List.mem_singleton] at hc; subst hc
      exact own_grown hct1 h1.row (by decide) hgr
  have hS := Chg.set u9 w3.heap.size 2 (.slice A9 (ls.length + 1) c9)
  have hL : cutC ls ++ [.slice A ins.length cc, .int .u64 (T : Int)] = cutC (ls ++ [((A, cc, ins), T)]) := by
    unfold cutC
    rw [List.flatMap_append]
    rfl
  have hlen : (ls ++ [((A, cc, ins), T)]).length = ls.length + 1 := by rw [List.length_append]; rfl
  refine ⟨hS.below hbl (Nat.le_trans h1.below.size hgr.size) (fun k hk => by rw [hk]; exact Nat.le_refl _), ?_, hS.blk hmb (by omega), ⟨cap, hc, hm9.keep ?_⟩, ?_, fun c hc => hS.own (hall c hc) (fun g e hk => ?_), ?_⟩
  · have hp := hbox.put 2 (.slice A9 (ls.length + 1) c9)
    rw [hlen]
    exact hp
  · exact hS.block _ hm9.lt (by omega)
  · rw [hL] at hown
    rw [hlen]
    exact hS.own hown (fun g e hk => own_other hown hbox (by decide) (by rw [e, hk]))
  · exact own_other (hall c hc) hbox (by decide) (by rw [e, hk])
  · unfold _root_.Go.Proofs.YtaajnmggbhnndaaGreatDoor.pcs
    rw [List.map_append, litsTo_yes hnd, List.map_append]
    have := h1.pcs
    unfold _root_.Go.Proofs.YtaajnmggbhnndaaGreatDoor.pcs at this
    rw [this]
    simp only [List.map_cons, List.map_nil, hl]
theorem litsTo_le (nd : List Bool) : ∀ n, (litsTo nd n).length ≤ n
  | 0 => by simp [litsTo]
  | n + 1 => by
    have := litsTo_le nd n
    rw [litsTo]
    split
    · rw [List.length_append, List.length_singleton]; omega
    · omega
/-- a table's box -/
def LutBox (wr : World) (g : Nat) (c : PC) (wx : World) : Prop := Below wr.heap.size wr wx ∧ ∃ A cc, Blk wx g 41 #[.slice A c.1.length cc, .int .u64 (c.2 : Int)] ∧ OwnL wr.heap.size wx (A, cc, c.1)
theorem LutBox.of {wm wx : World} {A : Option Addr} {cc T q : Nat} {ins : List Int} (hl : ins.length = q) (hB : Below wm.heap.size wm wx) (hT : Blk wx wm.heap.size 41 #[.slice A q cc, .int .u64 (T : Int)]) (hO : wx.ownsRow wm.heap.size 3 1 (.slice A q cc) q (ints ins)) : LutBox wm wm.heap.size (ins, T) wx := by
  subst hl; exact ⟨hB, A, cc, hT, hO⟩
theorem results_net {fn : Func} (h : fn.results = #[.cell 4 32, .tmp 5]) (tmps : Array Value) (w : World) (g : Nat) (a b c d : Value) (hp : tmps.getD 4 undef = .pointer (some ⟨g, 0, none⟩)) (hg : Blk w g 32 #[a, b, c, d]) :
    (results fn tmps).run Tryz.prog w = .ok (.tuple #[.agg #[a, b, c, d], tmps.getD 5 undef]) w := by
  have hs : (Tryz.prog.info? 32).map (·.size) = some 4 := by kernel_rfl
  have hp' : tmps[4]?.getD undef = .pointer (some ⟨g, 0, none⟩) := by simpa using hp
  simp [results, h, hp', asAddr, run_loadVar_row w g 32 32 #[a, b, c, d] (0, 0) _ hg Tryz.underlying32 rfl hs]
theorem set4n {w : World} {g : Nat} {t : TypeId} {a b c d : Value} (h : Blk w g t #[a, b, c, d]) (x y z u : Value) : Blk ((((w.setCell ⟨g, 0, none⟩ x).setCell ⟨g, 1, none⟩ y).setCell ⟨g, 2, none⟩ z).setCell ⟨g, 3, none⟩ u) g t #[x, y, z, u] := by
  have := (((h.put 0 x).put 1 y).put 2 z).put 3 u
  simpa using this
theorem hold_info : (Tryz.prog.info? 71).map (fun i => (i.zero, i.size, i.bytes)) = some (some (.agg #[.int .i64 0, .bool false]), 2, 16) := by kernel_rfl
/-- a literal's node, when all tables are made and the net's box changes alone -/
theorem P2.nodeC {M : MP} {w3 w4 wx : World} {I n p a : Nat} {AL : Option Addr} {cL : Nat} {ls : List CT} (h : P2 M w3 I n p AL cL ls w4) (hC : Chg w4 wx fun k => k = w3.heap.size) (ha : a < n) (hn : n ≤ 1000000) :
    Calls Tryz.prog 19 #[.int .i64 (a : Int), .pointer (some ⟨w3.heap.size + 1 + 1, 0, none⟩)] wx fun r w' => r = .returned (.int .i64 (M.at_ a : Int)) ∧ wx = w' := by
  obtain ⟨cap, hc, hm⟩ := h.map
  have h' := mnode_any (w3.heap.size + 1 + 1) (w3.heap.size + 1) cap a (M.madeTo n) wx ((hC.blk h.mbox (by omega)).cell 0) (hm.keep (hC.block _ hm.lt (by omega))) (by omega)
  rw [M.madeTo_at ha] at h'
  exact h'
theorem Chg.grownHi {w wx u : World} {X : Nat → Prop} {row : Option Nat} (h : Chg w wx X) (hg : wx.grownBy u row) (hr : ∀ k, row = some k → w.heap.size ≤ k) : Chg w u X := by
  have h2 := h.trans (Chg.of_grown hg)
  refine ⟨h2.os, h2.tape, h2.output, h2.size, fun k hk hx => h2.block k hk (fun ho => ?_)⟩
  rcases ho with ho | ho
  · exact hx ho
  · have := hr k ho.symm; omega
theorem Chg.setSame {w wx : World} {g i : Nat} (h : Chg w wx fun k => k = g) (v : Value) : Chg w (wx.setCell ⟨g, i, none⟩ v) fun k => k = g :=
  (h.trans (Chg.set wx g i v)).mono' fun k hk => hk.elim id id
theorem Chg.sets (w : World) (g : Nat) (x y z u : Value) : Chg w ((((w.setCell ⟨g, 0, none⟩ x).setCell ⟨g, 1, none⟩ y).setCell ⟨g, 2, none⟩ z).setCell ⟨g, 3, none⟩ u) fun k => k = g :=
  ((((Chg.set w g 0 x).setSame y).setSame z).setSame u)
theorem hold_one (v : Int) (b : Bool) : ∀ u ∈ [Value.int .i64 v, .bool b], u.oneCell' = true := by
  intro u hu
  simp at hu
  rcases hu with rfl | rfl <;> rfl
theorem fc_append (l m : List (Int × Bool)) : fc (l ++ m) = fc l ++ fc m := by unfold fc; rw [List.flatMap_append]
theorem Chg.belowB {w wx wy : World} {X : Nat → Prop} (h : Chg w wx X) (hb : Below wx.heap.size wx wy) : Chg w wy X := (h.trans (Chg.of_below hb X)).mono' (by simp)
end Go.Proofs.YtaajnmggbhnndaaGreatDoor
