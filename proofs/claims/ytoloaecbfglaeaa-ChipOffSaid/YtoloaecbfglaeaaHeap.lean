/- Walks of container/heap over filigree/pack's least: what is in it stays, but for its order. -/
import Derived.Test.YtoloaecbfglaeaaPk
import Derived.Test.YtoloaecbfglaeaaBchk
import Derived.Test.YtoloaecbfglaeaaJoined
import Derived.Test.YtoloaecbfglaeaaGetL
import Derived.BigRegion
import Derived.ChangeAlike
import Derived.RegionTactic
namespace Go.Proofs.Ytoloaecbfglaeaa
open Go.RowKit
set_option linter.unusedVariables false
set_option linter.unusedSimpArgs false

set_option maxRecDepth 100000 in
theorem hlen_any (A : Option Addr) (n c : Nat) (w : World) (hn : n ≤ 100000000) :
    Calls Try.prog 151 #[.slice A n c] w fun e w' => e = .returned (.int .i64 (n : Int)) ∧ w = w' := by
  go_enter Try.func151, Try.ntmps151
  go_wp2_with fail
  go_ret
  exact ⟨rfl, rfl⟩

def LessOut (r : Bool) (w : World) (e : Ending) (w' : World) : Prop := e = .returned (.bool r) ∧ ∃ q, w' = w.drewN q
set_option maxRecDepth 100000 in
theorem hless_any (A : Option Addr) (n c : Nat) (l : List Int) (i j : Nat) (w : World) (hr : Rd w 1 A n c (ints l)) (hi : i < n) (hj : j < n) (hn : n ≤ 100000000) :
    Calls Try.prog 152 #[.slice A n c, .int .i64 (i : Int), .int .i64 (j : Int)] w (LessOut (decide (l.getD i 0 < l.getD j 0)) w) := by
  obtain ⟨a, rfl, hab, c0⟩ := hr.int hi
  obtain ⟨a', ha, -, c1⟩ := hr.int hj
  obtain rfl := Option.some.inj ha
  have HR := Lib.hid hr
  clear hr ha
  have hi' : (i : Int) < n := by omega
  have hj' : (j : Int) < n := by omega
  generalize l.getD i 0 = x at c0
  generalize l.getD j 0 = y at c1
  go_enter Try.func152, Try.ntmps152
  go_wp2_with fail
  go_quiet (fail)
  go_wp2_with fail
  go_ret
  exact ⟨rfl, _, rfl⟩

/-- two of a list, exchanged -/
def swapL (l : List Int) (i j : Nat) : List Int := (l.set i (l.getD j 0)).set j (l.getD i 0)
def SwapOut (base g n c : Nat) (l : List Int) (i j : Nat) (w : World) (e : Ending) (w' : World) : Prop :=
  e = .returned (.tuple #[]) ∧ w'.ownsRow base 3 1 (.slice (some ⟨g, 0, none⟩) n c) n (ints (swapL l i j)) ∧ w.grownBy w' (some g)
set_option maxRecDepth 100000 in
theorem hswap_any (base g n c : Nat) (l : List Int) (i j : Nat) (w : World) (ho : w.ownsRow base 3 1 (.slice (some ⟨g, 0, none⟩) n c) n (ints l)) (hi : i < n) (hj : j < n) (hn : n ≤ 100000000) :
    Calls Try.prog 153 #[.slice (some ⟨g, 0, none⟩) n c, .int .i64 (i : Int), .int .i64 (j : Int)] w (SwapOut base g n c l i j w) := by
  have fi := ho.frozenAt i
  have fj := ho.frozenAt j
  have hr := Rd.of_own ho
  obtain ⟨a, ha, hab, c0⟩ := hr.int hi
  obtain ⟨a', ha', -, c1⟩ := hr.int hj
  obtain rfl := Option.some.inj ha
  obtain rfl := Option.some.inj ha'
  rw [show ∀ k, (Addr.add ⟨g, 0, none⟩ k) = ⟨g, k, none⟩ from fun k => by rw [Addr.add_lit]; simp] at c0 c1
  have HO := Lib.hid ho
  clear ho hr ha ha'
  have hi' : (i : Int) < n := by omega
  have hj' : (j : Int) < n := by omega
  obtain ⟨x, hx⟩ : ∃ x, l.getD i 0 = x := ⟨_, rfl⟩
  obtain ⟨y, hy⟩ : ∃ y, l.getD j 0 = y := ⟨_, rfl⟩
  rw [hx] at c0
  rw [hy] at c1
  have HX := Lib.hid hx
  have HY := Lib.hid hy
  clear hx hy
  obtain ⟨v', hv'⟩ := cell?_setCell_some (w := w) (p := ⟨g, i, none⟩) (x := .int .i64 y) (q := ⟨g, j, none⟩) (v := .int .i64 y) c1
  go_enter Try.func153, Try.ntmps153
  go_wp2_with fail
  go_region
  go_end0
  have S1 := HO.out.stored i (.int .i64 y)
  have S2 := S1.1.stored j (.int .i64 x)
  refine ⟨rfl, ?_, ?_⟩
  · have := S2.1
    rw [show ((ints l).set i (.int .i64 y)).set j (.int .i64 x) = ints (swapL l i j) by unfold swapL; rw [HX.out, HY.out]; simp [ints, List.map_set]] at this
    exact this
  · exact grown_on (grown_on S1.2 S2.2) ⟨rfl, rfl, rfl, Nat.le_refl _, fun _ _ _ => rfl⟩
/-- the least ones: a variable R that holds a row -/
structure HQ (w : World) (base R : Nat) (A : Option Addr) (c : Nat) (l : List Int) : Prop where
  box : Blk w R 140 #[.slice A l.length c]
  row : w.ownsRow base 3 1 (.slice A l.length c) l.length (ints l)
/-- nothing but R, and its row, is another one -/
structure HK (w w' : World) (R : Nat) (row : Option Nat) : Prop where
  os : w'.os = w.os
  tape : w'.tape = w.tape
  output : w'.output = w.output
  size : w.heap.size ≤ w'.heap.size
  block : ∀ k, k < w.heap.size → k ≠ R → some k ≠ row → w'.heap[k]? = w.heap[k]?
theorem HK.refl (w : World) (R : Nat) (row : Option Nat) : HK w w R row := ⟨rfl, rfl, rfl, Nat.le_refl _, fun _ _ _ _ => rfl⟩
theorem HK.grown {w w' : World} {row : Option Nat} (h : w.grownBy w' row) (R : Nat) : HK w w' R row := ⟨h.os, h.tape, h.output, h.size, fun k hk _ hr => h.block k hk hr⟩
theorem HK.trans {a b c : World} {R : Nat} {row : Option Nat} (h : HK a b R row) (k : HK b c R row) : HK a c R row :=
  ⟨k.os.trans h.os, k.tape.trans h.tape, k.output.trans h.output, Nat.le_trans h.size k.size, fun i hi h1 h2 => (k.block i (Nat.lt_of_lt_of_le hi h.size) h1 h2).trans (h.block i hi h1 h2)⟩
/-- the row may have gone on to a new place -/
theorem HK.trans_new {a b c : World} {R : Nat} {row row' : Option Nat} (h : HK a b R row) (k : HK b c R row') (hn : row' = row ∨ ∀ g, row' = some g → a.heap.size ≤ g) : HK a c R row := by
  refine ⟨k.os.trans h.os, k.tape.trans h.tape, k.output.trans h.output, Nat.le_trans h.size k.size, fun i hi h1 h2 => (k.block i (Nat.lt_of_lt_of_le hi h.size) h1 ?_).trans (h.block i hi h1 h2)⟩
  rcases hn with rfl | hn
  · exact h2
  · intro e
    have := hn i e.symm
    omega
theorem HK.set (w : World) (R i : Nat) (v : Value) (row : Option Nat) : HK w (w.setCell ⟨R, i, none⟩ v) R row :=
  ⟨rfl, rfl, rfl, by simp, fun k _ hk _ => Below.heap_setCell w ⟨R, i, none⟩ v k hk⟩
theorem HK.drew {w w' : World} {R : Nat} {row : Option Nat} (h : HK w w' R row) (n : Nat) : HK w (w'.drewN n) R row := ⟨h.os, h.tape, h.output, h.size, h.block⟩
theorem HK.drew_left {w w' : World} {R : Nat} {row : Option Nat} {n : Nat} (h : HK (w.drewN n) w' R row) : HK w w' R row := ⟨h.os, h.tape, h.output, h.size, h.block⟩
theorem HQ.drew {w : World} {base R : Nat} {A : Option Addr} {c : Nat} {l : List Int} (h : HQ w base R A c l) (n : Nat) : HQ (w.drewN n) base R A c l := ⟨h.box, h.row⟩
theorem HQ.ne {w : World} {base R : Nat} {A : Option Addr} {c : Nat} {l : List Int} (h : HQ w base R A c l) : (Value.slice A l.length c).ownBlock ≠ some R := own_other h.row h.box (by decide)
/-- what is done to the row -/
theorem HQ.turned {w w' : World} {base R : Nat} {A A' : Option Addr} {c : Nat} {l l' : List Int} (h : HQ w base R A c l) (hl : l'.length = l.length) (hA : A' = A) (ho : w'.ownsRow base 3 1 (.slice A l.length c) l.length (ints l')) (hg : w.grownBy w' (Value.slice A l.length c).ownBlock) : HQ w' base R A' c l' := by
  subst hA
  exact ⟨by rw [hl]; exact h.box.grown hg (fun e => h.ne e.symm), by rw [hl]; exact ho⟩
def PushOut (base R : Nat) (A : Option Addr) (c : Nat) (l : List Int) (x : Int) (w : World) (e : Ending) (w' : World) : Prop :=
  e = .returned (.tuple #[]) ∧ ∃ A' c', HQ w' base R A' c' (l ++ [x]) ∧ HK w w' R (Value.slice A l.length c).ownBlock ∧ ((Value.slice A' (l.length + 1) c').ownBlock = (Value.slice A l.length c).ownBlock ∨ ∀ g, (Value.slice A' (l.length + 1) c').ownBlock = some g → w.heap.size ≤ g)
theorem push_end {w w9 : World} {base R n c g9 cap9 m : Nat} {A : Option Addr} {l : List Int} {x : Int} (hB : Blk w R 140 #[.slice A n c]) (hB9 : Blk w9 R 140 #[.slice A n c])
    (ho : w9.ownsRow base 3 1 (.slice (some ⟨g9, 0, none⟩) (n + 1) cap9) (n + 1) (ints l ++ [.int .i64 x])) (hg : w.grownBy w9 (Value.slice A n c).ownBlock)
    (hat : (Value.slice A n c).ownBlock = some g9 ∨ g9 = w.heap.size + 1) (hn : n = l.length) :
    PushOut base R A c l x w (.returned (.tuple #[])) ((w9.setCell ⟨R, 0, none⟩ (.slice (some ⟨g9, 0, none⟩) (n + 1) cap9)).drewN m) := by
  subst hn
  refine ⟨rfl, some ⟨g9, 0, none⟩, cap9, HQ.drew ⟨?_, ?_⟩ m, ?_, ?_⟩
  · have := hB9.put 0 (.slice (some ⟨g9, 0, none⟩) (l.length + 1) cap9)
    simpa using this
  · have h1 := ownsRow_setCell_other ho (a := ⟨R, 0, none⟩) (own_other ho hB9 (by decide)) (.slice (some ⟨g9, 0, none⟩) (l.length + 1) cap9)
    have e : ints l ++ [.int .i64 x] = ints (l ++ [x]) := by simp [ints]
    rw [e] at h1
    simpa using h1
  · exact ((HK.grown hg R).trans (HK.set w9 R 0 _ _)).drew m
  · rcases hat with h | h
    · exact .inl (by rw [h]; rfl)
    · exact .inr fun g e => by simp [Value.ownBlock] at e; omega
set_option maxRecDepth 100000 in
set_option maxHeartbeats 1000000 in
theorem hpush_any (base R n c : Nat) (A : Option Addr) (l : List Int) (x : Int) (w : World) (h : HQ w base R A c l) (hn : l.length ≤ 100000000) (hb : base ≤ w.heap.size) :
    Calls Try.prog 155 #[.pointer (some ⟨R, 0, none⟩), .iface 3 (.int .i64 x)] w (PushOut base R A c l x w) := by
  have hne := h.ne
  obtain ⟨hB, hO⟩ := h
  obtain ⟨n, hnn⟩ : ∃ n, l.length = n := ⟨_, rfl⟩
  rw [hnn] at hB hO hne hn
  have HNN := Lib.hid hnn
  have k0 : w.cell? ⟨R, 0, none⟩ = some (.slice A n c) := hB.cell 0
  have hR : R < w.heap.size := hB.lt
  obtain ⟨i0, hi0, hz0, hz1, hz2⟩ := info_parts int_info
  have HI0 := Lib.hid hi0
  have HZ0 := Lib.hid hz0
  have HZ1 := Lib.hid hz1
  have HZ2 := Lib.hid hz2
  have HB := Lib.hid hB
  have HO := Lib.hid hO
  have HNE := Lib.hid (fun e => hne e.symm : some R ≠ (Value.slice A n c).ownBlock)
  have hta : ∀ w : World, (Instr.typeAssert (.iface 3 (.int .i64 x)) 20 3 false).run Try.prog w = .ok (.int .i64 x) w := fun _ => by kernel_rfl
  clear hi0 hz0 hz1 hz2 hB hO hne hnn
  go_enter Try.func155, Try.ntmps155
  go_wp2_with fail
  refine wp_region_held_drew (S := (fun _ => True)) (by kernel_rfl) ?_ (fun hHeld => ?_)
  · trivial
  refine wpAnyH_take (i := 0) (oi := { dst := some 4, op := Op.move (Operand.tmp 0), type := 142, pos := _, after := #[], guard := none }) (v := ?_) rfl (by kernel_rfl) (by kernel_rfl) (by kernel_rfl) (fun _ _ _ h => h) (Or.inl ⟨by rfl, ?_⟩) (by assumption) ?_
  rotate_left
  · intro w hSw; (try dsimp only at hSw); go_simp; (try with_reducible rfl)
  try simp only [Act.put, List.setIfInBounds_toArray, List.set_cons_zero, List.set_cons_succ]
  refine wpAnyH_take (i := 1) (oi := { dst := some 5, op := Op.move (Operand.tmp 0), type := 142, pos := _, after := #[], guard := none }) (v := ?_) rfl (by kernel_rfl) (by kernel_rfl) (by kernel_rfl) (fun _ _ _ h => h) (Or.inl ⟨by rfl, ?_⟩) (by assumption) ?_
  rotate_left
  · intro w hSw; (try dsimp only at hSw); go_simp; (try with_reducible rfl)
  try simp only [Act.put, List.setIfInBounds_toArray, List.set_cons_zero, List.set_cons_succ]
  refine wpAnyH_take (i := 2) (oi := { dst := some 6, op := Op.nilCheck (Operand.tmp 5), type := 0, pos := _, after := #[{ on := 1, ground := Ground.data }], guard := none }) (v := ?_) rfl (by kernel_rfl) (by kernel_rfl) (by kernel_rfl) (fun _ _ _ h => h) (Or.inl ⟨by rfl, ?_⟩) (by assumption) ?_
  rotate_left
  · intro w hSw; (try dsimp only at hSw); go_simp; (try with_reducible rfl)
  try simp only [Act.put, List.setIfInBounds_toArray, List.set_cons_zero, List.set_cons_succ]
  refine wpAnyH_take (i := 4) (oi := { dst := some 8, op := Op.move (Operand.tmp 1), type := 20, pos := _, after := #[], guard := none }) (v := ?_) rfl (by kernel_rfl) (by kernel_rfl) (by kernel_rfl) (fun _ _ _ h => h) (Or.inl ⟨by rfl, ?_⟩) (by assumption) ?_
  rotate_left
  · intro w hSw; (try dsimp only at hSw); go_simp; (try with_reducible rfl)
  try simp only [Act.put, List.setIfInBounds_toArray, List.set_cons_zero, List.set_cons_succ]
  refine wpAnyH_take (i := 5) (oi := { dst := some 9, op := Op.typeAssert (Operand.tmp 8) 20 3 false, type := 3, pos := _, after := #[{ on := 4, ground := Ground.data }], guard := none }) (v := ?_) rfl (by kernel_rfl) (by kernel_rfl) (by kernel_rfl) (fun _ _ _ h => h) (Or.inl ⟨by rfl, ?_⟩) (by assumption) ?_
  rotate_left
  · intro w hSw; (try dsimp only at hSw); go_simp; (try with_reducible rfl)
  try simp only [Act.put, List.setIfInBounds_toArray, List.set_cons_zero, List.set_cons_succ]
  refine wpAnyH_ready (rs := [3, 6]) (by kernel_rfl) (by simp) ?_
  refine AllReadyH.cons (o := { dst := some 7, op := Op.load 140 (Operand.tmp 6), type := 140, pos := _, after := #[{ on := 2, ground := Ground.data }], guard := none }) rfl (fun K hK => ?_) (AllReadyH.cons (o := { dst := some 10, op := Op.buildSlice 140 1 #[(0, Operand.tmp 9)], type := 140, pos := _, after := #[{ on := 5, ground := Ground.data }], guard := none }) rfl (fun K hK => ?_) AllReadyH.nil)
  · skip
    go_simp
    refine hK.out _ _ ?_ (fun hHeld => ?_)
    · trivial
    clear hK K
    try simp only [Act.put, List.setIfInBounds_toArray, List.set_cons_zero, List.set_cons_succ]
    refine wpAnyH_ready (rs := [6]) (by kernel_rfl) (by simp) ?_
    refine AllReadyH.cons (o := { dst := some 10, op := Op.buildSlice 140 1 #[(0, Operand.tmp 9)], type := 140, pos := _, after := #[{ on := 5, ground := Ground.data }], guard := none }) rfl (fun K hK => ?_) AllReadyH.nil
    go_simp
    refine hK.out _ _ ?_ (fun hHeld => ?_)
    · trivial
    clear hK K
    try simp only [Act.put, List.setIfInBounds_toArray, List.set_cons_zero, List.set_cons_succ]
    refine wpAnyH_ready (rs := [7]) (by kernel_rfl) (by simp) ?_
    refine AllReadyH.cons (o := { dst := some 11, op := Op.call { callee := Callee.builtin Builtin.append, args := #[Operand.tmp 7, Operand.tmp 10], argTypes := #[140, 140] }, type := 140, pos := _, after := #[{ on := 3, ground := Ground.data }, { on := 6, ground := Ground.data }], guard := none }) rfl (fun K hK => ?_) AllReadyH.nil
    have T8 := HO.out.alloc (.cells #[.int .i64 x] 3)
    refine step_append_lies _ (by rfl) (.tmp 7) (.tmp 10) 140 (by rfl) base 3 i0 (.int .i64 0) 1 8 Try.underlying140 HI0.out HZ0.out HZ1.out HZ2.out rfl (by decide) (.slice A n c) n (ints l) (by rfl) T8 ⟨w.heap.size, 0, none⟩ 1 1 [.int .i64 x] (by rfl) rfl (new_cells w _ _) (by intro u hu; simp at hu; rcases hu with rfl; rfl) (by decide) (by unfold maxLen; omega) (by omega) (by simp; omega) (w.heap.size + 1) (by simp) ?_
    intro g9 cap9 w9 hown9 hg9 hat9 hlt9
    have hg9' := (World.grownBy_alloc w (.cells #[.int .i64 x] 3) (Value.slice A n c).ownBlock).trans (show (w.alloc (.cells #[.int .i64 x] 3)).grownBy w9 (Value.slice A n c).ownBlock from ⟨hg9.os, hg9.tape, hg9.output, hg9.size, hg9.block⟩)
    have B9 := HB.out.grown hg9' HNE.out
    have k9 : w9.cell? ⟨R, 0, none⟩ = some (.slice A n c) := B9.cell 0
    have f9 := B9.free 0
    refine hK.out _ _ ?_ (fun hHeld => ?_)
    · trivial
    clear hK K
    try simp only [Act.put, List.setIfInBounds_toArray, List.set_cons_zero, List.set_cons_succ]
    refine wpAnyH_ready (rs := [8]) (by kernel_rfl) (by simp) ?_
    refine AllReadyH.cons (o := { dst := some 12, op := Op.nilCheck (Operand.tmp 4), type := 0, pos := _, after := #[{ on := 0, ground := Ground.data }, { on := 0, ground := Ground.phase }, { on := 1, ground := Ground.phase }, { on := 2, ground := Ground.phase }, { on := 3, ground := Ground.phase }, { on := 4, ground := Ground.phase }, { on := 5, ground := Ground.phase }, { on := 6, ground := Ground.phase }, { on := 7, ground := Ground.phase }], guard := none }) rfl (fun K hK => ?_) AllReadyH.nil
    go_simp
    refine hK.out _ _ ?_ (fun hHeld => ?_)
    · trivial
    clear hK K
    try simp only [Act.put, List.setIfInBounds_toArray, List.set_cons_zero, List.set_cons_succ]
    refine wpAnyH_ready (rs := [9]) (by kernel_rfl) (by simp) ?_
    refine AllReadyH.cons (o := { dst := none, op := Op.store 140 (Operand.tmp 12) (Operand.tmp 11), type := 0, pos := _, after := #[{ on := 8, ground := Ground.data }, { on := 7, ground := Ground.data }, { on := 7, ground := Ground.chain }, { on := 0, ground := Ground.phase }, { on := 1, ground := Ground.phase }, { on := 2, ground := Ground.phase }, { on := 3, ground := Ground.phase }, { on := 4, ground := Ground.phase }, { on := 5, ground := Ground.phase }, { on := 6, ground := Ground.phase }, { on := 7, ground := Ground.phase }], guard := none }) rfl (fun K hK => ?_) AllReadyH.nil
    go_simp
    refine hK.out _ _ ?_ (fun hHeld => ?_)
    · trivial
    clear hK K
    try simp only [Act.put, List.setIfInBounds_toArray, List.set_cons_zero, List.set_cons_succ]
    refine wpAnyH_done (by kernel_rfl) ?_ _
    have HB9 := Lib.hid B9
    have HO9 := Lib.hid hown9
    have HG9 := Lib.hid hg9'
    have HAT := Lib.hid hat9
    clear hown9 hg9' hg9 hat9 hlt9 B9 k9 f9 hHeld
    go_wp2_with fail
    go_end0
    exact push_end (m := 0) HB.out HB9.out HO9.out HG9.out HAT.out HNN.out.symm
  · skip
    go_simp
    refine hK.out _ _ ?_ (fun hHeld => ?_)
    · trivial
    clear hK K
    try simp only [Act.put, List.setIfInBounds_toArray, List.set_cons_zero, List.set_cons_succ]
    refine wpAnyH_ready (rs := [3]) (by kernel_rfl) (by simp) ?_
    refine AllReadyH.cons (o := { dst := some 7, op := Op.load 140 (Operand.tmp 6), type := 140, pos := _, after := #[{ on := 2, ground := Ground.data }], guard := none }) rfl (fun K hK => ?_) AllReadyH.nil
    go_simp
    refine hK.out _ _ ?_ (fun hHeld => ?_)
    · trivial
    clear hK K
    try simp only [Act.put, List.setIfInBounds_toArray, List.set_cons_zero, List.set_cons_succ]
    refine wpAnyH_ready (rs := [7]) (by kernel_rfl) (by simp) ?_
    refine AllReadyH.cons (o := { dst := some 11, op := Op.call { callee := Callee.builtin Builtin.append, args := #[Operand.tmp 7, Operand.tmp 10], argTypes := #[140, 140] }, type := 140, pos := _, after := #[{ on := 3, ground := Ground.data }, { on := 6, ground := Ground.data }], guard := none }) rfl (fun K hK => ?_) AllReadyH.nil
    have T8 := HO.out.alloc (.cells #[.int .i64 x] 3)
    refine step_append_lies _ (by rfl) (.tmp 7) (.tmp 10) 140 (by rfl) base 3 i0 (.int .i64 0) 1 8 Try.underlying140 HI0.out HZ0.out HZ1.out HZ2.out rfl (by decide) (.slice A n c) n (ints l) (by rfl) T8 ⟨w.heap.size, 0, none⟩ 1 1 [.int .i64 x] (by rfl) rfl (new_cells w _ _) (by intro u hu; simp at hu; rcases hu with rfl; rfl) (by decide) (by unfold maxLen; omega) (by omega) (by simp; omega) (w.heap.size + 1) (by simp) ?_
    intro g9 cap9 w9 hown9 hg9 hat9 hlt9
    have hg9' := (World.grownBy_alloc w (.cells #[.int .i64 x] 3) (Value.slice A n c).ownBlock).trans (show (w.alloc (.cells #[.int .i64 x] 3)).grownBy w9 (Value.slice A n c).ownBlock from ⟨hg9.os, hg9.tape, hg9.output, hg9.size, hg9.block⟩)
    have B9 := HB.out.grown hg9' HNE.out
    have k9 : w9.cell? ⟨R, 0, none⟩ = some (.slice A n c) := B9.cell 0
    have f9 := B9.free 0
    refine hK.out _ _ ?_ (fun hHeld => ?_)
    · trivial
    clear hK K
    try simp only [Act.put, List.setIfInBounds_toArray, List.set_cons_zero, List.set_cons_succ]
    refine wpAnyH_ready (rs := [8]) (by kernel_rfl) (by simp) ?_
    refine AllReadyH.cons (o := { dst := some 12, op := Op.nilCheck (Operand.tmp 4), type := 0, pos := _, after := #[{ on := 0, ground := Ground.data }, { on := 0, ground := Ground.phase }, { on := 1, ground := Ground.phase }, { on := 2, ground := Ground.phase }, { on := 3, ground := Ground.phase }, { on := 4, ground := Ground.phase }, { on := 5, ground := Ground.phase }, { on := 6, ground := Ground.phase }, { on := 7, ground := Ground.phase }], guard := none }) rfl (fun K hK => ?_) AllReadyH.nil
    go_simp
    refine hK.out _ _ ?_ (fun hHeld => ?_)
    · trivial
    clear hK K
    try simp only [Act.put, List.setIfInBounds_toArray, List.set_cons_zero, List.set_cons_succ]
    refine wpAnyH_ready (rs := [9]) (by kernel_rfl) (by simp) ?_
    refine AllReadyH.cons (o := { dst := none, op := Op.store 140 (Operand.tmp 12) (Operand.tmp 11), type := 0, pos := _, after := #[{ on := 8, ground := Ground.data }, { on := 7, ground := Ground.data }, { on := 7, ground := Ground.chain }, { on := 0, ground := Ground.phase }, { on := 1, ground := Ground.phase }, { on := 2, ground := Ground.phase }, { on := 3, ground := Ground.phase }, { on := 4, ground := Ground.phase }, { on := 5, ground := Ground.phase }, { on := 6, ground := Ground.phase }, { on := 7, ground := Ground.phase }], guard := none }) rfl (fun K hK => ?_) AllReadyH.nil
    go_simp
    refine hK.out _ _ ?_ (fun hHeld => ?_)
    · trivial
    clear hK K
    try simp only [Act.put, List.setIfInBounds_toArray, List.set_cons_zero, List.set_cons_succ]
    refine wpAnyH_done (by kernel_rfl) ?_ _
    have HB9 := Lib.hid B9
    have HO9 := Lib.hid hown9
    have HG9 := Lib.hid hg9'
    have HAT := Lib.hid hat9
    clear hown9 hg9' hg9 hat9 hlt9 B9 k9 f9 hHeld
    go_wp2_with fail
    go_end0
    exact push_end (m := 0) HB.out HB9.out HO9.out HG9.out HAT.out HNN.out.symm

theorem own_cut {w : World} {base g n c m : Nat} {e : TypeId} {xs : List Value} (h : w.ownsRow base e 1 (.slice (some ⟨g, 0, none⟩) n c) n xs) (hm : m ≤ n) : w.ownsRow base e 1 (.slice (some ⟨g, 0, none⟩) m c) m (xs.take m) := by
  have hl := h.1
  refine ⟨by simp; omega, ?_⟩
  rcases h.2 with ⟨h', _⟩ | ⟨g', cap', cur, h', hb, hg, hnc, hcm, hcs, htake⟩
  · simp at h'
  · simp only [Value.slice.injEq, Option.some.injEq, Addr.mk.injEq, and_true, true_and] at h'
    obtain ⟨rfl, rfl⟩ := h'
    refine .inr ⟨g, c, cur, rfl, hb, hg, by omega, hcm, hcs, ?_⟩
    rw [← htake, List.take_take]
    congr 1
    omega
theorem own_some {w : World} {base : Nat} {e : TypeId} {size n c : Nat} {A : Option Addr} {xs : List Value} (h : w.ownsRow base e size (.slice A n c) n xs) (hn : 0 < n) : ∃ g, A = some ⟨g, 0, none⟩ ∧ base ≤ g ∧ g < w.heap.size := by
  rcases h.2 with ⟨hv, h0⟩ | ⟨g, cap, cur, hv, hg, hh, -⟩
  · omega
  · injection hv with h1
    exact ⟨g, h1, hg, lt_of_block hh⟩
theorem HQ.head {w : World} {base R : Nat} {A : Option Addr} {c : Nat} {l : List Int} (h : HQ w base R A c l) (hl : 0 < l.length) : ∃ g, A = some ⟨g, 0, none⟩ ∧ base ≤ g ∧ g < w.heap.size := own_some h.row hl
theorem own_room {w : World} {base : Nat} {e : TypeId} {size n c : Nat} {A : Option Addr} {xs : List Value} (h : w.ownsRow base e size (.slice A n c) n xs) : c ≤ maxLen := by
  rcases h.2 with ⟨hv, hn⟩ | ⟨g, cap, cur, hv, hg, hh, hc, hm, -⟩
  · injection hv with _ _ h3; subst h3; unfold maxLen; omega
  · injection hv with _ _ h3; subst h3; exact hm
def PopOut (base R g c : Nat) (l : List Int) (x : Int) (w : World) (e : Ending) (w' : World) : Prop :=
  e = .returned (.iface 3 (.int .i64 x)) ∧ HQ w' base R (some ⟨g, 0, none⟩) c l ∧ HK w w' R (some g)
set_option maxRecDepth 100000 in
set_option maxHeartbeats 1000000 in
theorem hpopm_any (base R g c : Nat) (l : List Int) (x : Int) (w : World) (h : HQ w base R (some ⟨g, 0, none⟩) c (l ++ [x])) (hn : l.length ≤ 100000000) :
    Calls Try.prog 154 #[.pointer (some ⟨R, 0, none⟩)] w (PopOut base R g c l x w) := by
  have hne := h.ne
  obtain ⟨hB, hO⟩ := h
  rw [List.length_append, List.length_singleton] at hB hO hne
  have k0 : w.cell? ⟨R, 0, none⟩ = some (.slice (some ⟨g, 0, none⟩) (l.length + 1) c) := hB.cell 0
  have f0 := hB.free 0
  have hcap : l.length + 1 ≤ c := (Rd.of_own hO).cap
  have hcm := own_room hO
  obtain ⟨a, ha, hab, c0⟩ := (Rd.of_own hO).int (k := l.length) (by omega)
  obtain rfl := Option.some.inj ha
  rw [show (Addr.add ⟨g, 0, none⟩ l.length) = ⟨g, l.length, none⟩ by rw [Addr.add_lit]; simp, show (l ++ [x]).getD l.length 0 = x by simp [List.getD_eq_getElem?_getD]] at c0
  have hgR : (⟨g, l.length, none⟩ : Addr) ≠ ⟨R, 0, none⟩ := fun e => hne (by injection e with e1; rw [e1]; rfl)
  have HB := Lib.hid hB
  have HO := Lib.hid hO
  have HNE := Lib.hid hne
  have hl0 : (l.length : Int) < 9223372036854775807 := by omega
  unfold maxLen at hcm
  clear hB hO hne ha
  go_enter Try.func154, Try.ntmps154
  go_wp2_with fail
  go_ret
  refine ⟨rfl, ⟨?_, ?_⟩, HK.set w R 0 _ _⟩
  · have := HB.out.put 0 (.slice (some ⟨g, 0, none⟩) l.length c)
    simpa using this
  · have h1 := own_cut (m := l.length) HO.out (by omega)
    have e : (ints (l ++ [x])).take l.length = ints l := by simp [ints]
    rw [e] at h1
    exact ownsRow_setCell_other h1 (a := ⟨R, 0, none⟩) HNE.out _

/-! ### methods by name -/
theorem m_push (k R : Nat) (w : World) : (method (k + 1) 142 (.pointer (some ⟨R, 0, none⟩)) "Push").run Try.prog w = .ok (155, .pointer (some ⟨R, 0, none⟩)) w := by kernel_rfl
theorem m_pop (k R : Nat) (w : World) : (method (k + 1) 142 (.pointer (some ⟨R, 0, none⟩)) "Pop").run Try.prog w = .ok (154, .pointer (some ⟨R, 0, none⟩)) w := by kernel_rfl
theorem m_len0 (k R : Nat) (w : World) : (method (k + 1) 142 (.pointer (some ⟨R, 0, none⟩)) "Len").run Try.prog w = (do let v ← loadVar 140 ⟨R, 0, none⟩; pure (151, v) : Sem (FuncId × Value)).run Try.prog w := by kernel_rfl
theorem m_less0 (k R : Nat) (w : World) : (method (k + 1) 142 (.pointer (some ⟨R, 0, none⟩)) "Less").run Try.prog w = (do let v ← loadVar 140 ⟨R, 0, none⟩; pure (152, v) : Sem (FuncId × Value)).run Try.prog w := by kernel_rfl
theorem m_swap0 (k R : Nat) (w : World) : (method (k + 1) 142 (.pointer (some ⟨R, 0, none⟩)) "Swap").run Try.prog w = (do let v ← loadVar 140 ⟨R, 0, none⟩; pure (153, v) : Sem (FuncId × Value)).run Try.prog w := by kernel_rfl
theorem m_len (k R : Nat) (w : World) (A : Option Addr) (n c : Nat) (h : w.cell? ⟨R, 0, none⟩ = some (.slice A n c)) : (method (k + 1) 142 (.pointer (some ⟨R, 0, none⟩)) "Len").run Try.prog w = .ok (151, .slice A n c) w := by
  rw [m_len0]
  go_simp
theorem m_less (k R : Nat) (w : World) (A : Option Addr) (n c : Nat) (h : w.cell? ⟨R, 0, none⟩ = some (.slice A n c)) : (method (k + 1) 142 (.pointer (some ⟨R, 0, none⟩)) "Less").run Try.prog w = .ok (152, .slice A n c) w := by
  rw [m_less0]
  go_simp
theorem m_swap (k R : Nat) (w : World) (A : Option Addr) (n c : Nat) (h : w.cell? ⟨R, 0, none⟩ = some (.slice A n c)) : (method (k + 1) 142 (.pointer (some ⟨R, 0, none⟩)) "Swap").run Try.prog w = .ok (153, .slice A n c) w := by
  rw [m_swap0]
  go_simp
end Go.Proofs.Ytoloaecbfglaeaa
