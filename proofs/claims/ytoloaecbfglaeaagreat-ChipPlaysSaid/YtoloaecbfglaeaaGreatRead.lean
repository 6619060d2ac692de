/- What filigree/chip.Read tells, plainly; how it lies in memory. · Walk of filigree/chip.Read: which blocks a configuration is. -/
import Derived.Test.YtoloaecbfglaeaaGreatPchk
import Derived.Test.YtoloaecbfglaeaaGreatBlkW
import Derived.Test.YtoloaecbfglaeaaGreatPair
import Derived.Deep.RegionHeld3
import Derived.BigRegion
import Derived.Outline

namespace Go.Proofs.YtoloaecbfglaeaaGreat
open Go.RowKit Topo
set_option linter.unusedVariables false
set_option linter.unusedSimpArgs false

/-- who drives a node -/
noncomputable def dv (C : Cfg) (n : Int) : Int := (dL C).getD n.toNat 0
def inN (C : Cfg) (t k : Nat) : Int := nodeN C.W C.H C.T 1 ((t : Int) % C.W) ((t : Int) / C.W) (k : Int)
/-- the four wires of a tile -/
noncomputable def insD (C : Cfg) (t : Nat) : List Int := [dv C (inN C t 0), dv C (inN C t 1), dv C (inN C t 2), dv C (inN C t 3)]
noncomputable def outsD (C : Cfg) : List Int := C.outs.map fun p => dv C (padN C p)
noncomputable def blkD (C : Cfg) (t : Nat) : List Int × Int × Bool × Bool := (natI (ipL (insD C t) 4), (blockT (insD C t) (C.tiles[t]!).1.toNat : Int), (C.tiles[t]!).2.1, (C.tiles[t]!).2.2)
noncomputable def packD (C : Cfg) : Int × List (List Int × Int × Bool × Bool) × List Int := ((C.ins.length : Int), (List.range C.tiles.length).map (blkD C), outsD C)
/-- what Read tells of an error, and of blocks -/
def ReadR (C : Cfg) (P : PK) (x : Int) : Prop :=
  if dE C ≠ 0 then x = dE C else if (outsD C).any (fun o => decide (o < 0)) = true then x = 121 else ∃ Q : PK, Q.plain = packD C ∧ ChkR Q x ∧ (x = 0 → P.plain = packD C)
def ReadOut (C : Cfg) (w : World) (e : Ending) (w' : World) : Prop :=
  ∃ (P : PK) (x : Int), e = .returned (.tuple #[.agg #[.int .i64 P.I, .slice P.AB P.bs.length P.cB, .slice P.AO P.outs.length P.cO], .int .i64 x]) ∧ Below w.heap.size w w' ∧ P.In w' ∧ P.fit ∧ ReadR C P x ∧ (x ≠ 0 → P = ⟨0, none, 0, [], none, 0, []⟩)
def READ (C : Cfg) (w : World) (R : Ending → World → Prop) : Prop :=
  Calls Tryz.prog 9 #[.agg #[.int .i64 C.W, .int .i64 C.H, .int .i64 C.T, .slice C.AT C.tiles.length C.cT, .slice C.AO C.on.length C.cO, .slice C.AI C.ins.length C.cI, .slice C.AU C.outs.length C.cU]] w R
def zeroPK : PK := ⟨0, none, 0, [], none, 0, []⟩
theorem zero_in (w : World) : zeroPK.In w := ⟨Rd.empty, fun b hb => (nomatch hb), Rd.empty⟩
theorem zero_fit : zeroPK.fit := ⟨⟨by decide, by decide⟩, by decide, fun b hb => (nomatch hb), fun b hb => (nomatch hb), by decide⟩
theorem results_pack {fn : Func} (h : fn.results = #[.cell 2 33, .tmp 3]) (tmps : Array Value) (w : World) (g : Nat) (cs : Array Value) (hs : cs.size = 3) (hp : tmps.getD 2 undef = .pointer (some ⟨g, 0, none⟩)) (hg : Blk w g 33 cs) :
    (results fn tmps).run Tryz.prog w = .ok (.tuple #[.agg cs, tmps.getD 3 undef]) w := by
  have hp' : tmps[2]?.getD undef = .pointer (some ⟨g, 0, none⟩) := by simpa using hp
  have hi : (Tryz.prog.info? 33).map (·.size) = some cs.size := by rw [hs]; kernel_rfl
  simp [results, h, hp', asAddr, run_loadVar_row w g 33 33 cs (0, 0) _ hg Tryz.underlying33 rfl hi]
theorem set3 {w : World} {g : Nat} {t : TypeId} {a b c : Value} (h : Blk w g t #[a, b, c]) (x y z : Value) : Blk (((w.setCell ⟨g, 0, none⟩ x).setCell ⟨g, 1, none⟩ y).setCell ⟨g, 2, none⟩ z) g t #[x, y, z] := by
  have := ((h.put 0 x).put 1 y).put 2 z
  simpa using this
/-- an error told -/
theorem read_err {fn : Func} (hres : fn.results = #[.cell 2 33, .tmp 3]) (C : Cfg) (w wx : World) (tmps : Array Value) (x : Int) {a b c : Value} (hB : Below w.heap.size w wx) (hZ : Blk wx (w.heap.size + 1) 33 #[a, b, c]) (hx : ReadR C zeroPK x)
    (h2 : tmps.getD 2 undef = .pointer (some ⟨w.heap.size + 1, 0, none⟩)) (h3 : tmps.getD 3 undef = .int .i64 x) :
    bodyPost Tryz.prog fn (ReadOut C w) .ret { tmps := tmps, defers := [] } (((wx.setCell ⟨w.heap.size + 1, 0, none⟩ (.int .i64 0)).setCell ⟨w.heap.size + 1, 1, none⟩ (.slice none 0 0)).setCell ⟨w.heap.size + 1, 2, none⟩ (.slice none 0 0)) := by
  have hz := set3 hZ (.int .i64 0) (.slice none 0 0) (.slice none 0 0)
  have hr := results_pack hres tmps _ _ _ rfl h2 hz
  rw [h3] at hr
  have hb : ∀ {W : World} (hB : Below w.heap.size w W) (j : Nat) (v : Value), Below w.heap.size w (W.setCell ⟨w.heap.size + 1, j, none⟩ v) := fun hB j v => hB.setCell (p := ⟨w.heap.size + 1, j, none⟩) (show w.heap.size ≤ w.heap.size + 1 by omega) v
  exact bodyPost_ret hr rfl ⟨zeroPK, x, rfl, hb (hb (hb hB 0 _) 1 _) 2 _, zero_in _, zero_fit, hx, fun _ => rfl⟩

theorem node_bd {W H T : Int} (h : okA W H T) {k : Nat} {x y t : Int} (hk : k < 5) (hg : inG W H T k x y t) : nodeE W H T k x y t = 0 ∧ 0 ≤ nodeN W H T k x y t ∧ nodeN W H T k x y t < nodesI W H T := by
  have e : nodeN W H T k x y t = nodeAt W H T k x y t := by unfold nodeN; rw [if_pos ⟨h, hg⟩]
  obtain ⟨a1, -⟩ := nodeAt_what h hk hg
  rw [e]
  exact ⟨by unfold nodeE; rw [if_pos ⟨h, hg⟩], a1.2⟩
theorem out_pad {C : Cfg} (h : C.ok) {p : Int} (hp : p ∈ C.outs) : nodeE C.W C.H C.T 2 p 0 0 = 0 ∧ 0 ≤ padN C p ∧ padN C p < nodesI C.W C.H C.T := by
  have h1 := h.2.1.1 p (List.mem_append.2 (.inr hp))
  exact node_bd h.1 (by omega) (by simp only [inG, gw, gh, gd]; omega)
theorem in_node {C : Cfg} (h : C.ok) {t k : Nat} (ht : t < C.tiles.length) (hk : k < 4) : nodeE C.W C.H C.T 1 ((t : Int) % C.W) ((t : Int) / C.W) (k : Int) = 0 ∧ 0 ≤ inN C t k ∧ inN C t k < nodesI C.W C.H C.T := by
  obtain ⟨h1, h2⟩ := tile_there h ht
  exact node_bd h.1 (by omega) (by simp only [inG, gw, gh, gd]; omega)
theorem dE_zero {C : Cfg} (h : dE C = 0) : C.ok ∧ (labs C).Nodup := by
  unfold dE at h
  by_cases h1 : C.ok
  · rw [if_pos h1] at h
    by_cases h2 : (labs C).Nodup
    · exact ⟨h1, h2⟩
    · rw [if_neg h2] at h; cases h
  · rw [if_neg h1] at h; cases h
theorem dL_length {C : Cfg} (h : dE C = 0) : ((dL C).length : Int) = nodesI C.W C.H C.T := by
  obtain ⟨h1, h2⟩ := dE_zero h
  have := nodes_bd h1.1
  unfold dL
  rw [if_pos ⟨h1, h2⟩]
  simp only [driversL, List.length_map, joinedL, List.length_range]
  omega
theorem whoseOf_bd (l : List Nat) (n : Nat) : -1 ≤ whoseOf l n ∧ whoseOf l n ≤ l.length := by
  unfold whoseOf
  cases h : l.findIdx? (· == n) with
  | none => constructor <;> simp only <;> omega
  | some w =>
    have := (List.findIdx?_eq_some_iff_getElem.1 h).1
    constructor <;> simp only <;> omega
theorem dv_bd {C : Cfg} (hf : C.few) (n : Int) : -1 ≤ dv C n ∧ dv C n ≤ 10000 := by
  unfold dv dL
  by_cases h : C.ok ∧ (labs C).Nodup
  · rw [if_pos h]
    unfold driversL
    rw [List.getD_eq_getElem?_getD, List.getElem?_map]
    cases (joinedL C)[n.toNat]? with
    | none => simp
    | some m =>
      have := whoseOf_bd (labs C) m
      have h2 := labs_length C
      have h3 := hf.1
      have h4 := hf.2.2.1
      simp only [Option.map_some, Option.getD_some]
      omega
  · rw [if_neg h]; simp
/-- what Read holds: blocks, and memory since the drivers were told -/
structure RW (w1 wx : World) (I : Int) (AB : Option Addr) (cB : Nat) (bs : List BL) (AU : Option Addr) (cU : Nat) (us : List Int) : Prop where
  below : Below w1.heap.size w1 wx
  pk : Blk wx w1.heap.size 33 #[.int .i64 I, .slice AB bs.length cB, .slice AU us.length cU]
  blocks : wx.ownsRow (w1.heap.size + 1) 67 4 (.slice AB bs.length cB) bs.length (blocks4 bs)
  each : ∀ b ∈ bs, wx.ownsRow (w1.heap.size + 1) 3 1 (.slice b.A b.l.length b.c) b.l.length (ints b.l)
  outs : wx.ownsRow (w1.heap.size + 1) 3 1 (.slice AU us.length cU) us.length (ints us)
section
variable {w1 wx wy : World} {I : Int} {AB AU : Option Addr} {cB cU : Nat} {bs : List BL} {us : List Int}
theorem RW.keep (h : RW w1 wx I AB cB bs AU cU us) (hb : Below wx.heap.size wx wy) : RW w1 wy I AB cB bs AU cU us :=
  ⟨below_then h.below hb, h.pk.keep hb, own_keep h.blocks hb, fun b hm => own_keep (h.each b hm) hb, own_keep h.outs hb⟩
theorem RW.lt (h : RW w1 wx I AB cB bs AU cU us) : w1.heap.size < wx.heap.size := h.pk.lt
theorem RW.start (w1 : World) (I : Int) : RW w1 (w1.alloc (.cells #[.int .i64 I, .slice none 0 0, .slice none 0 0] 33)) I none 0 [] none 0 [] :=
  ⟨below_new _ _, Blk.made _ _ _, World.ownsRow_nil _ _ _ _, fun b hb => (nomatch hb), World.ownsRow_nil _ _ _ _⟩
/-- an output more -/
theorem RW.out (h : RW w1 wx I none 0 [] AU cU us) {qB : Option Addr} {qd : Nat} {x : Int} (hr : wy.ownsRow (w1.heap.size + 1) 3 1 (.slice qB (us.length + 1) qd) (us.length + 1) (ints us ++ [.int .i64 x])) (hg : wx.grownBy wy (Value.slice AU us.length cU).ownBlock) :
    RW w1 (wy.setCell ⟨w1.heap.size, 2, none⟩ (.slice qB (us.length + 1) qd)) I none 0 [] qB qd (us ++ [x]) := by
  have hpk := h.pk.grown hg (fun e => own_other h.outs h.pk (by decide) e.symm)
  have hl : (us ++ [x]).length = us.length + 1 := by simp
  have hb := h.below.grown hg (Nat.le_of_lt h.lt) (fun k hk => by have := (h.outs.lt k hk).1; omega)
  refine ⟨hb.setCell (p := ⟨w1.heap.size, 2, none⟩) (Nat.le_refl _) _, ?_, World.ownsRow_nil _ _ _ _, fun b hb => (nomatch hb), ?_⟩
  · rw [hl]
    have := hpk.put 2 (.slice qB (us.length + 1) qd)
    simpa using this
  · rw [hl, show ints (us ++ [x]) = ints us ++ [.int .i64 x] by simp [ints]]
    exact ownsRow_setCell_other hr (a := ⟨w1.heap.size, 2, none⟩) (own_other hr hpk (by decide)) _
/-- a block more -/
theorem RW.blk (h : RW w1 wx I AB cB bs AU cU us) {qB : Option Addr} {qd : Nat} {b : BL} (hbr : wx.ownsRow (w1.heap.size + 1) 3 1 (.slice b.A b.l.length b.c) b.l.length (ints b.l)) (hr : wy.ownsRow (w1.heap.size + 1) 67 4 (.slice qB (bs.length + 1) qd) (bs.length + 1) (blocks4 bs ++ b.cells)) (hg : wx.grownBy wy (Value.slice AB bs.length cB).ownBlock) :
    RW w1 (wy.setCell ⟨w1.heap.size, 1, none⟩ (.slice qB (bs.length + 1) qd)) I qB qd (bs ++ [b]) AU cU us := by
  have hpk := h.pk.grown hg (fun e => own_other h.blocks h.pk (by decide) e.symm)
  have hl : (bs ++ [b]).length = bs.length + 1 := by simp
  have hb := h.below.grown hg (Nat.le_of_lt h.lt) (fun k hk => by have := (h.blocks.lt k hk).1; omega)
  have apart : ∀ {n c : Nat} {A : Option Addr} {xs : List Value}, wx.ownsRow (w1.heap.size + 1) 3 1 (.slice A n c) n xs → (wy.setCell ⟨w1.heap.size, 1, none⟩ (.slice qB (bs.length + 1) qd)).ownsRow (w1.heap.size + 1) 3 1 (.slice A n c) n xs := fun ho => by
    have h1 := (Chg.of_grown hg).own ho fun g hgo e => by
      obtain ⟨cs, hi⟩ := own_int ho hgo
      exact own_other h.blocks hi (by decide) e.symm
    exact ownsRow_setCell_other h1 (a := ⟨w1.heap.size, 1, none⟩) (own_other h1 hpk (by decide)) _
  refine ⟨hb.setCell (p := ⟨w1.heap.size, 1, none⟩) (Nat.le_refl _) _, ?_, ?_, fun d hd => ?_, apart h.outs⟩
  · rw [hl]
    have := hpk.put 1 (.slice qB (bs.length + 1) qd)
    simpa using this
  · rw [hl, show blocks4 (bs ++ [b]) = blocks4 bs ++ b.cells by simp [blocks4]]
    exact ownsRow_setCell_other hr (a := ⟨w1.heap.size, 1, none⟩) (own_other hr hpk (by decide)) _
  · rcases List.mem_append.1 hd with hd | hd
    · exact apart (h.each d hd)
    · rw [List.mem_singleton.1 hd]; exact apart hbr
/-- a cell of another block of the call's own -/
theorem RW.apart (h : RW w1 wx I AB cB bs AU cU us) {g : Nat} {t : TypeId} {cs : Array Value} (hb : Blk wx g t cs) (hg : w1.heap.size < g) (h2 : 67 ≠ t) (h3 : 3 ≠ t) (i : Nat) (v : Value) : RW w1 (wx.setCell ⟨g, i, none⟩ v) I AB cB bs AU cU us :=
  ⟨h.below.setCell (p := ⟨g, i, none⟩) (Nat.le_of_lt hg) v, h.pk.apart (show w1.heap.size ≠ g by omega) v, ownsRow_setCell_other h.blocks (a := ⟨g, i, none⟩) (own_other h.blocks hb h2) v,
    fun b hm => ownsRow_setCell_other (h.each b hm) (a := ⟨g, i, none⟩) (own_other (h.each b hm) hb h3) v, ownsRow_setCell_other h.outs (a := ⟨g, i, none⟩) (own_other h.outs hb h3) v⟩
theorem RW.in (h : RW w1 wx I AB cB bs AU cU us) : PK.In ⟨I, AB, cB, bs, AU, cU, us⟩ wx := ⟨Rd.of_own h.blocks, fun b hb => Rd.of_own (h.each b hb), Rd.of_own h.outs⟩
end
/-- the wires of a tile as far as they are told -/
def mixD (D : List Int) (j : Nat) : List Int := (List.range 4).map fun i => if i < j then D.getD i 0 else 0
theorem mixD_next (D : List Int) {j : Nat} (hj : j < 4) : (mixD D j).set j (D.getD j 0) = mixD D (j + 1) := by rcases lt4 hj with rfl | rfl | rfl | rfl <;> rfl
theorem mixD_get (D : List Int) {j : Nat} (hj : j < 4) : (mixD D j)[j]? = some 0 := by rcases lt4 hj with rfl | rfl | rfl | rfl <;> rfl
theorem mixD_four (a b c d : Int) : mixD [a, b, c, d] 4 = [a, b, c, d] := rfl
theorem blockT_lt (D : List Int) (t : Nat) : blockT D t < 2 ^ 2 ^ (kpL D 4).length := pk_lt _ _ _
theorem blockT_bd (D : List Int) (t : Nat) : blockT D t ≤ 65536 := by
  have h1 := blockT_lt D t
  have h2 : 2 ^ (kpL D 4).length ≤ 2 ^ 4 := Nat.pow_le_pow_right (by omega) (kpL_len D 4)
  have h3 : 2 ^ 2 ^ (kpL D 4).length ≤ 2 ^ 16 := Nat.pow_le_pow_right (by omega) h2
  omega
theorem pack_fit {C : Cfg} (hf : C.few) {P : PK} (h : P.plain = packD C) : P.fit := by
  simp only [PK.plain, packD, Prod.mk.injEq] at h
  obtain ⟨h1, h2, h3⟩ := h
  have hb : ∀ b ∈ P.bs, ∃ t, blkD C t = b.plain := fun b hb => by
    have : b.plain ∈ P.bs.map BL.plain := List.mem_map.2 ⟨b, hb, rfl⟩
    rw [h2] at this
    obtain ⟨t, -, ht⟩ := List.mem_map.1 this
    exact ⟨t, ht⟩
  have hn : P.bs.length = C.tiles.length := by have := congrArg List.length h2; simpa using this
  have hi := hf.2.2.1
  have ho := hf.2.2.2
  have ht := hf.1
  refine ⟨by omega, by omega, fun b hm => ?_, fun b hm => ?_, ?_⟩
  · obtain ⟨t, e⟩ := hb b hm
    simp only [blkD, BL.plain, Prod.mk.injEq] at e
    have := blockT_bd (insD C t) (C.tiles[t]!).1.toNat
    omega
  · obtain ⟨t, e⟩ := hb b hm
    simp only [blkD, BL.plain, Prod.mk.injEq] at e
    rw [← e.1, natI_length, ipL_len]
    have := kpL_len (insD C t) 4
    omega
  · rw [h3]; simp [outsD]; omega
/-- blocks told -/
theorem read_ok {fn : Func} (hres : fn.results = #[.cell 2 33, .tmp 3]) (C : Cfg) (P : PK) (w wx : World) (tmps : Array Value) {a b c : Value} (hB : Below w.heap.size w wx) (hZ : Blk wx (w.heap.size + 1) 33 #[a, b, c]) (hx : ReadR C P 0) (hI : P.In (((wx.setCell ⟨w.heap.size + 1, 0, none⟩ (.int .i64 P.I)).setCell ⟨w.heap.size + 1, 1, none⟩ (.slice P.AB P.bs.length P.cB)).setCell ⟨w.heap.size + 1, 2, none⟩ (.slice P.AO P.outs.length P.cO))) (hf : P.fit)
    (h2 : tmps.getD 2 undef = .pointer (some ⟨w.heap.size + 1, 0, none⟩)) (h3 : tmps.getD 3 undef = .int .i64 0) :
    bodyPost Tryz.prog fn (ReadOut C w) .ret { tmps := tmps, defers := [] } (((wx.setCell ⟨w.heap.size + 1, 0, none⟩ (.int .i64 P.I)).setCell ⟨w.heap.size + 1, 1, none⟩ (.slice P.AB P.bs.length P.cB)).setCell ⟨w.heap.size + 1, 2, none⟩ (.slice P.AO P.outs.length P.cO)) := by
  have hz := set3 hZ (.int .i64 P.I) (.slice P.AB P.bs.length P.cB) (.slice P.AO P.outs.length P.cO)
  have hr := results_pack hres tmps _ _ _ rfl h2 hz
  rw [h3] at hr
  have hb : ∀ {W : World} (hB : Below w.heap.size w W) (j : Nat) (v : Value), Below w.heap.size w (W.setCell ⟨w.heap.size + 1, j, none⟩ v) := fun hB j v => hB.setCell (p := ⟨w.heap.size + 1, j, none⟩) (show w.heap.size ≤ w.heap.size + 1 by omega) v
  exact bodyPost_ret hr rfl ⟨P, 0, rfl, hb (hb (hb hB 0 _) 1 _) 2 _, hI, hf, hx, fun h => absurd rfl h⟩
/-- rows stay when a cell of an elder block is another one -/
theorem RW.setIn {w1 wx : World} {I : Int} {AB AU : Option Addr} {cB cU : Nat} {bs : List BL} {us : List Int} (h : RW w1 wx I AB cB bs AU cU us) {g : Nat} (hg : g < w1.heap.size) (x y z : Value) :
    PK.In ⟨I, AB, cB, bs, AU, cU, us⟩ (((wx.setCell ⟨g, 0, none⟩ x).setCell ⟨g, 1, none⟩ y).setCell ⟨g, 2, none⟩ z) := by
  have k : ∀ {e : TypeId} {size n c : Nat} {A : Option Addr} {xs : List Value}, wx.ownsRow (w1.heap.size + 1) e size (.slice A n c) n xs → Rd (((wx.setCell ⟨g, 0, none⟩ x).setCell ⟨g, 1, none⟩ y).setCell ⟨g, 2, none⟩ z) size A n c xs := fun ho =>
    Rd.of_own (ownsRow_setCell_below (ownsRow_setCell_below (ownsRow_setCell_below ho (a := ⟨g, 0, none⟩) (show g < w1.heap.size + 1 by omega) x) (a := ⟨g, 1, none⟩) (show g < w1.heap.size + 1 by omega) y) (a := ⟨g, 2, none⟩) (show g < w1.heap.size + 1 by omega) z)
  exact ⟨k h.blocks, fun b hb => k (h.each b hb), k h.outs⟩
end Go.Proofs.YtoloaecbfglaeaaGreat

namespace Go.Proofs.YtoloaecbfglaeaaGreat
open Go.RowKit Topo
set_option linter.unusedVariables false
set_option linter.unusedSimpArgs false

set_option maxRecDepth 100000 in
set_option maxHeartbeats 2000000 in
theorem read_no (C : Cfg) (w : World) (hin : C.In w) (hf : C.few) (h : dE C ≠ 0) : READ C w (ReadOut C w) := by
  have T0 := Lib.hid (Box7.new w C 28)
  have b0 := below_new w (.cells #[.int .i64 C.W, .int .i64 C.H, .int .i64 C.T, .slice C.AT C.tiles.length C.cT, .slice C.AO C.on.length C.cO, .slice C.AI C.ins.length C.cI, .slice C.AU C.outs.length C.cU] 28)
  have b1 := below_then b0 (below_new _ (.cells #[.int .i64 0, .slice none 0 0, .slice none 0 0] 33))
  have hd := drivers_pair C _ (hin.later b1) hf
  unfold DRV at hd
  have HD := Lib.hid hd
  have B1 := Lib.hid b1
  have Z1 := Blk.made (w.alloc (.cells #[.int .i64 C.W, .int .i64 C.H, .int .i64 C.T, .slice C.AT C.tiles.length C.cT, .slice C.AO C.on.length C.cO, .slice C.AI C.ins.length C.cI, .slice C.AU C.outs.length C.cU] 28)) 33 #[.int .i64 0, .slice none 0 0, .slice none 0 0]
  rw [World.size_alloc] at Z1
  have Z1 := Lib.hid Z1
  have hne : (dE C != 0) = true := by rw [bne_iff_ne]; exact h
  have HR := Lib.hid (show ReadR C zeroPK (dE C) from by unfold ReadR; rw [if_pos h])
  clear hd b0 b1 hin
  unfold READ
  generalize dE C = x at HD hne HR
  go_enter Tryz.func9, Tryz.ntmps9
  go_wp2_with fail
  refine HD.out.mono ?_
  rintro e w1 ⟨A, c, rfl, hb1, -⟩
  have B2 := Lib.hid (below_then B1.out hb1)
  have Z2 := Lib.hid (Z1.out.keep hb1)
  have z0 := Z2.out.cell 0
  have z1 := Z2.out.cell 1
  have z2 := Z2.out.cell 2
  have f0 := Z2.out.free 0
  have f1 := Z2.out.free 1
  have f2 := Z2.out.free 2
  have hz := Z2.out.lt
  clear hb1 h
  go_wp2_with fail
  exact read_err Tryz.results9 C w w1 _ x B2.out Z2.out HR.out rfl rfl

set_option maxRecDepth 100000 in
set_option maxHeartbeats 8000000 in
theorem read_yes (C : Cfg) (w : World) (hin : C.In w) (hf : C.few) (h : dE C = 0) : READ C w (ReadOut C w) := by
  have T0 := Box7.new w C 28
  have b0 := below_new w (.cells #[.int .i64 C.W, .int .i64 C.H, .int .i64 C.T, .slice C.AT C.tiles.length C.cT, .slice C.AO C.on.length C.cO, .slice C.AI C.ins.length C.cI, .slice C.AU C.outs.length C.cU] 28)
  have b1 := below_then b0 (below_new _ (.cells #[.int .i64 0, .slice none 0 0, .slice none 0 0] 33))
  have hd := drivers_pair C _ (hin.later b1) hf
  rw [h] at hd
  unfold DRV at hd
  have HD := Lib.hid hd
  have B1 := Lib.hid b1
  have Z1 := Blk.made (w.alloc (.cells #[.int .i64 C.W, .int .i64 C.H, .int .i64 C.T, .slice C.AT C.tiles.length C.cT, .slice C.AO C.on.length C.cO, .slice C.AI C.ins.length C.cI, .slice C.AU C.outs.length C.cU] 28)) 33 #[.int .i64 0, .slice none 0 0, .slice none 0 0]
  rw [World.size_alloc] at Z1
  have Z1 := Lib.hid Z1
  have T1 := Lib.hid (T0.below (below_new _ (.cells #[.int .i64 0, .slice none 0 0, .slice none 0 0] 33)))
  obtain ⟨hok, hnd⟩ := dE_zero h
  have HOK := Lib.hid hok
  have HDL := Lib.hid (dL_length h)
  have HF := Lib.hid hf
  have HIN := Lib.hid hin
  have HE := Lib.hid h
  have hW1 : 1 ≤ C.W := hok.1.1.1
  have hW2 : C.W ≤ 16 := hok.1.1.2
  have hnt := hf.1
  have hni := hf.2.2.1
  have hno := hf.2.2.2
  obtain ⟨i0, hi0, hz0, hz1, hz2⟩ := info_parts int_info
  obtain ⟨j0, hj0, hy0, hy1, hy2⟩ := info_parts (show (Tryz.prog.info? 67).map (fun i => (i.zero, i.size, i.bytes)) = some (some (.agg #[.slice none 0 0, .int .i64 0, .bool false, .bool false]), 4, 40) by kernel_rfl)
  have HI0 := Lib.hid hi0
  have HZ0 := Lib.hid hz0
  have HZ1 := Lib.hid hz1
  have HZ2 := Lib.hid hz2
  have HJ0 := Lib.hid hj0
  have HY0 := Lib.hid hy0
  have HY1 := Lib.hid hy1
  have HY2 := Lib.hid hy2
  obtain ⟨oU, hoU⟩ : ∃ o, C.AU = o := ⟨_, rfl⟩
  obtain ⟨oT, hoT⟩ : ∃ o, C.AT = o := ⟨_, rfl⟩
  rw [hoU, hoT] at HD B1 Z1 T1
  unfold READ
  rw [hoU, hoT]
  have HOU := Lib.hid hoU
  have HOT := Lib.hid hoT
  obtain ⟨I, hI⟩ : ∃ I, (C.ins.length : Int) = I := ⟨_, rfl⟩
  clear hd b0 b1 hin hf hok hnd h T0 hi0 hz0 hz1 hz2 hj0 hy0 hy1 hy2 hoU hoT
  go_enter Tryz.func9, Tryz.ntmps9
  go_wp2_with fail
  refine HD.out.mono ?_
  rintro e w1 ⟨A1, c1, rfl, hb1, hr1⟩
  have B2 := Lib.hid (below_then B1.out hb1)
  have Z2 := Lib.hid (Z1.out.keep hb1)
  have T2 := Lib.hid (T1.out.below hb1)
  have R2 := Lib.hid hr1
  have t4 := T2.out.c5
  have t5 := T2.out.c6
  have t3 := T2.out.c3
  have hz2 := Z2.out.lt
  have hz3 : w.heap.size < w1.heap.size := by omega
  rw [HOU.out] at t5
  rw [HOT.out] at t3
  clear hb1 hr1 HD B1 Z1 T1 hI
  have W0 := Lib.hid (RW.start w1 (C.ins.length : Int))
  go_wp2_with fail
  go_loopw [36] (fun v36 wx => ∃ (k : Nat) (AU : Option Addr) (cU : Nat), k ≤ C.outs.length ∧ v36 = .int .i64 (k : Int) ∧ RW w1 wx (C.ins.length : Int) none 0 [] AU cU ((outsD C).take k) ∧ ((outsD C).take k).any (fun o => decide (o < 0)) = false) (fun v36 _ => C.outs.length - (intOf v36).toNat)
  case atStart => exact ⟨0, none, 0, by omega, rfl, W0.out, rfl⟩
  case round =>
    obtain ⟨k, AU, cU, hk, rfl, hW, hA⟩ := hrel
    have W1 := Lib.hid hW
    have HA := Lib.hid hA
    have hz4 := hW.lt
    have T3 := T2.out.below hW.below
    have t0 := T3.c0
    have t1 := T3.c1
    have t2 := T3.c2
    have p0 := hW.pk.cell 2
    have q0 := hW.pk.free 2
    have R3 := Lib.hid (R2.out.later hW.below)
    clear hW hA t4 t5 W0
    by_cases hlt : k < C.outs.length
    case neg =>
      obtain rfl : k = C.outs.length := by omega
      have hol : (outsD C).length = C.outs.length := by simp [outsD]
      have hW := W1.out
      have hA := HA.out
      rw [← hol, List.take_length] at hW hA
      have HA2 := Lib.hid hA
      have W2 := Lib.hid hW
      have t3 := T3.c3
      rw [HOT.out] at t3
      clear hW hA hol W1 HA p0 q0 T3 R3
      go_wp2_with fail
      go_loopw [70] (fun v70 wx => ∃ (k : Nat) (AB : Option Addr) (cB : Nat) (bs : List BL), k ≤ C.tiles.length ∧ v70 = .int .i64 (k : Int) ∧ RW w1 wx (C.ins.length : Int) AB cB bs AU cU (outsD C) ∧ bs.map BL.plain = (List.range k).map (blkD C)) (fun v70 _ => C.tiles.length - (intOf v70).toNat)
      case atStart => exact ⟨0, none, 0, [], by omega, rfl, W2.out, rfl⟩
      case round =>
        obtain ⟨k, AB, cB, bs, hk, rfl, hW, hP⟩ := hrel
        have W3 := Lib.hid hW
        have HP := Lib.hid hP
        have hz4 := hW.lt
        have T3 := T2.out.below hW.below
        have B3 := Lib.hid (below_then B2.out hW.below)
        have R3 := Lib.hid (R2.out.later hW.below)
        have Z3 := Lib.hid (Z2.out.keep hW.below)
        have TT := Lib.hid T3
        clear hW hP t3 W2 t0 t1 t2
        by_cases hlt : k < C.tiles.length
        case neg =>
          obtain rfl : k = C.tiles.length := by omega
          obtain ⟨P, hPP⟩ : ∃ P : PK, P = ⟨(C.ins.length : Int), AB, cB, bs, AU, cU, outsD C⟩ := ⟨_, rfl⟩
          have hpl : P.plain = packD C := by rw [hPP]; simp only [PK.plain, packD, HP.out]
          have hpi : P.In wr := by rw [hPP]; exact W3.out.in
          have hck := pchk_any P wr hpi (pack_fit HF.out hpl)
          rw [hPP] at hck
          simp only at hck
          have HCK := Lib.hid hck
          have HPL := Lib.hid hpl
          have HPP := Lib.hid hPP
          have p0 := W3.out.pk.cell 0
          have p1 := W3.out.pk.cell 1
          have p2 := W3.out.pk.cell 2
          have hz9 := W3.out.lt
          clear hpl hpi hck hPP
          go_wp2_with fail
          refine HCK.out.mono ?_
          rintro e w4 ⟨x, rfl, hx, hb4⟩
          rw [← HPP.out] at hx
          have W4 := Lib.hid (W3.out.keep hb4)
          have B4 := Lib.hid (below_then B3.out hb4)
          have Z4 := Lib.hid (Z3.out.keep hb4)
          have HX := Lib.hid hx
          have hx0 : x = 0 ∨ x = 1 ∨ x = 321 := by rcases hx with ⟨h, -⟩ | ⟨h, -⟩ | ⟨h, -⟩ <;> omega
          have z0 := Z4.out.cell 0
          have z1 := Z4.out.cell 1
          have z2 := Z4.out.cell 2
          have f0 := Z4.out.free 0
          have f1 := Z4.out.free 1
          have f2 := Z4.out.free 2
          have hz6 := Z4.out.lt
          have p0 := W4.out.pk.cell 0
          have p1 := W4.out.pk.cell 1
          have p2 := W4.out.pk.cell 2
          have hz10 := W4.out.lt
          clear hx hb4
          have hRR : ∀ Q : PK, (x = 0 → Q.plain = packD C) → ReadR C Q x := fun Q hq => by
            unfold ReadR
            rw [HE.out, if_neg (by simp), HA2.out, if_neg (by simp)]
            exact ⟨P, HPL.out, HX.out, hq⟩
          have HRR := Lib.hid hRR
          clear hRR
          rcases hx0 with rfl | rfl | rfl
          · go_wp2_with fail
            have hne1 : w.heap.size + 1 < w1.heap.size := hz2
            have hI := W4.out.setIn hne1 (.int .i64 (C.ins.length : Int)) (.slice AB bs.length cB) (.slice AU (outsD C).length cU)
            exact read_ok Tryz.results9 C ⟨(C.ins.length : Int), AB, cB, bs, AU, cU, outsD C⟩ w w4 _ B4.out Z4.out (HRR.out _ (fun _ => by rw [← HPP.out]; exact HPL.out)) hI (pack_fit HF.out (by rw [← HPP.out]; exact HPL.out)) rfl rfl
          · go_wp2_with fail
            exact read_err Tryz.results9 C w w4 _ 1 B4.out Z4.out (HRR.out _ (fun h => by cases h)) rfl rfl
          · go_wp2_with fail
            exact read_err Tryz.results9 C w w4 _ 321 B4.out Z4.out (HRR.out _ (fun h => by cases h)) rfl rfl
        have hrt := ((HIN.out.later B2.out).later W3.out.below).tiles
        obtain ⟨aT, haT, habT, x0, x1, x2⟩ := hrt.tile hlt
        rw [HOT.out] at haT
        subst haT
        have htl := ok_tile HOK.out hlt
        have hbd : blkD C k = (natI (ipL (insD C k) 4), (blockT (insD C k) (C.tiles[k]!).1.toNat : Int), (C.tiles[k]!).2.1, (C.tiles[k]!).2.2) := rfl
        have HBD := Lib.hid hbd
        clear hbd hrt
        generalize C.tiles[k]! = tl at x0 x1 x2 htl HBD
        obtain ⟨tt, tf, ti⟩ := tl
        simp only at x0 x1 x2 htl
        obtain ⟨ht0, ht1⟩ := htl
        obtain ⟨tn, rfl⟩ := Int.eq_ofNat_of_zero_le ht0
        have hat := fun w => at_any C k w hW1 hW2 (by omega)
        rw [HOT.out, HOU.out] at hat
        have HAT := Lib.hid hat
        have y0 := T3.c0
        have y1 := T3.c1
        have y2 := T3.c2
        have y3 := T3.c3
        have y4 := T3.c4
        have y5 := T3.c5
        have y6 := T3.c6
        rw [HOT.out] at y3
        rw [HOU.out] at y6
        obtain ⟨wo, rfl⟩ : ∃ wo : World, wo = wr := ⟨_, rfl⟩
        have hz7 : w.heap.size < wo.heap.size := TT.out.lt
        clear hat T3
        go_wp2_with fail
        have bT := below_new wo (.cells #[.int .i64 (tn : Int), .bool tf, .bool ti] 61)
        have W5 := Lib.hid (W3.out.keep bT)
        have T5 := Lib.hid (TT.out.below bT)
        have M5 := Lib.hid (Blk.made wo 61 #[.int .i64 (tn : Int), .bool tf, .bool ti])
        refine (HAT.out _).mono ?_
        rintro e w6 ⟨rfl, hb6⟩
        have W6 := Lib.hid (W5.out.keep hb6)
        have T6 := Lib.hid (T5.out.below hb6)
        have M6 := Lib.hid (M5.out.keep hb6)
        clear hb6 bT x0 x1 x2 habT y0 y1 y2 y3 y4 y5 y6 W5 T5 M5
        have htd := tile_there HOK.out hlt
        have HTD := Lib.hid htd
        have hin := fun (j : Nat) (hj : j < 4) => in_node HOK.out hlt hj
        have HINN := Lib.hid hin
        unfold inN at hin
        have hDj : ∀ j, j < 4 → (insD C k).getD j 0 = dv C (inN C k j) := fun j hj => by rcases lt4 hj with rfl | rfl | rfl | rfl <;> rfl
        have HDJ := Lib.hid hDj
        clear htd hin hDj
        go_wp2_with fail
        have W7 := Lib.hid (W6.out.keep (below_new w6 (.cells #[.int .i64 0, .int .i64 0, .int .i64 0, .int .i64 0] 64)))
        have M7 := Lib.hid (M6.out.keep (below_new w6 (.cells #[.int .i64 0, .int .i64 0, .int .i64 0, .int .i64 0] 64)))
        have N7 := Lib.hid (Blk.made w6 64 #[.int .i64 0, .int .i64 0, .int .i64 0, .int .i64 0])
        have hz6 : w1.heap.size < w6.heap.size := W6.out.lt
        have hz8 : wo.heap.size < w6.heap.size := M6.out.lt
        go_loopw [81] (fun v81 wx => ∃ (j : Nat), j ≤ 4 ∧ v81 = .int .i64 (j : Int) ∧ RW w1 wx (C.ins.length : Int) AB cB bs AU cU (outsD C) ∧ Blk wx wo.heap.size 61 #[.int .i64 (tn : Int), .bool tf, .bool ti] ∧ Blk wx w6.heap.size 64 (ints (mixD (insD C k) j)).toArray) (fun v81 _ => 4 - (intOf v81).toNat)
        case atStart => exact ⟨0, by omega, rfl, W7.out, M7.out, N7.out⟩
        case round =>
          obtain ⟨j, hj, rfl, hW, hM, hN⟩ := hrel
          have W8 := Lib.hid hW
          have M8 := Lib.hid hM
          have N8 := Lib.hid hN
          have T8 := T2.out.below hW.below
          have y0 := T8.c0
          have y1 := T8.c1
          have y2 := T8.c2
          clear hW hM hN W7 M7 N7 T8
          by_cases hj4 : j < 4
          case neg =>
            obtain rfl : j = 4 := by omega
            rw [show (((4 : Nat) : Int)) = 4 from rfl]
            have hbl : bs.length = k := by have := congrArg List.length HP.out; simpa using this
            have HBL := Lib.hid hbl
            have hbl1 : bs.length ≤ 1000 := by omega
            have hb0 := dv_bd HF.out (inN C k 0)
            have hb1 := dv_bd HF.out (inN C k 1)
            have hb2 := dv_bd HF.out (inN C k 2)
            have hb3 := dv_bd HF.out (inN C k 3)
            have hN9 : Blk wr w6.heap.size 64 #[.int .i64 (dv C (inN C k 0)), .int .i64 (dv C (inN C k 1)), .int .i64 (dv C (inN C k 2)), .int .i64 (dv C (inN C k 3))] := N8.out
            have hD : insD C k = [dv C (inN C k 0), dv C (inN C k 1), dv C (inN C k 2), dv C (inN C k 3)] := rfl
            have HD := Lib.hid hD
            have N9 := Lib.hid hN9
            clear hD hN9 hbl
            generalize dv C (inN C k 0) = d0 at hb0 HD N9
            generalize dv C (inN C k 1) = d1 at hb1 HD N9
            generalize dv C (inN C k 2) = d2 at hb2 HD N9
            generalize dv C (inN C k 3) = d3 at hb3 HD N9
            have n0 := N9.out.cell 0
            have n1 := N9.out.cell 1
            have n2 := N9.out.cell 2
            have n3 := N9.out.cell 3
            have m0 := M8.out.cell 0
            have m1 := M8.out.cell 1
            have m2 := M8.out.cell 2
            have p1 : wr.cell? ⟨w1.heap.size, 1, none⟩ = some (.slice AB bs.length cB) := W8.out.pk.cell 1
            have hz9 := W8.out.lt
            have hbk := fun W => block_any tn tf ti d0 d1 d2 d3 W (by omega) (by omega) (by omega) (by omega) (by omega)
            have HBK := Lib.hid hbk
            clear hbk y0 y1 y2 hb0 hb1 hb2 hb3
            obtain ⟨D4, hD4⟩ : ∃ D4, [d0, d1, d2, d3] = D4 := ⟨_, rfl⟩
            rw [hD4] at HBK HD
            clear hD4
            go_wp2_with fail
            refine wp_region_held_drew (S := (fun _ => True)) (by kernel_rfl) ?_ (fun hHeld => ?_)
            · trivial
            refine wpAnyH_take (i := 0) (oi := { dst := some 104, op := Op.fieldAddr 33 (Operand.tmp 6) 1, type := 0, pos := _, after := #[], guard := none }) (v := ?_) rfl (by kernel_rfl) (by kernel_rfl) (by kernel_rfl) (fun _ _ _ h => h) (Or.inl ⟨by rfl, ?_⟩) (by assumption) ?_
            rotate_left
            · intro w hSw; (try dsimp only at hSw); go_simp; (try with_reducible rfl)
            try simp only [Act.put, List.setIfInBounds_toArray, List.set_cons_zero, List.set_cons_succ]
            refine wpAnyH_ready (rs := [1, 2, 3]) (by kernel_rfl) (by simp) ?_
            refine AllReadyH.cons (o := { dst := some 105, op := Op.load 31 (Operand.tmp 104), type := 31, pos := _, after := #[{ on := 0, ground := Ground.data }], guard := none }) rfl (fun K hK => ?_) (AllReadyH.cons (o := { dst := some 106, op := Op.load 61 (Operand.tmp 12), type := 61, pos := _, after := #[], guard := none }) rfl (fun K hK => ?_) (AllReadyH.cons (o := { dst := some 107, op := Op.load 64 (Operand.tmp 15), type := 64, pos := _, after := #[], guard := none }) rfl (fun K hK => ?_) AllReadyH.nil))
            · skip
              go_simp
              refine hK.out _ _ ?_ (fun hHeld => ?_)
              · trivial
              clear hK K
              try simp only [Act.put, List.setIfInBounds_toArray, List.set_cons_zero, List.set_cons_succ]
              refine wpAnyH_ready (rs := [2, 3]) (by kernel_rfl) (by simp) ?_
              refine AllReadyH.cons (o := { dst := some 106, op := Op.load 61 (Operand.tmp 12), type := 61, pos := _, after := #[], guard := none }) rfl (fun K hK => ?_) (AllReadyH.cons (o := { dst := some 107, op := Op.load 64 (Operand.tmp 15), type := 64, pos := _, after := #[], guard := none }) rfl (fun K hK => ?_) AllReadyH.nil)
              · skip
                go_simp
                refine hK.out _ _ ?_ (fun hHeld => ?_)
                · trivial
                clear hK K
                try simp only [Act.put, List.setIfInBounds_toArray, List.set_cons_zero, List.set_cons_succ]
                refine wpAnyH_ready (rs := [3]) (by kernel_rfl) (by simp) ?_
                refine AllReadyH.cons (o := { dst := some 107, op := Op.load 64 (Operand.tmp 15), type := 64, pos := _, after := #[], guard := none }) rfl (fun K hK => ?_) AllReadyH.nil
                go_simp
                refine hK.out _ _ ?_ (fun hHeld => ?_)
                · trivial
                clear hK K
                try simp only [Act.put, List.setIfInBounds_toArray, List.set_cons_zero, List.set_cons_succ]
                refine wpAnyH_ready (rs := [4]) (by kernel_rfl) (by simp) ?_
                refine AllReadyH.cons (o := { dst := some 108, op := Op.call { callee := Callee.value (Operand.func 28), args := #[Operand.tmp 106, Operand.tmp 107], argTypes := #[61, 64] }, type := 67, pos := _, after := #[{ on := 2, ground := Ground.data }, { on := 3, ground := Ground.data }], guard := none }) rfl (fun K hK => ?_) AllReadyH.nil
                go_simp
                with_reducible refine (HBK.out _).mono ?_
                rintro e w9 ⟨A9, c9, rfl, hb9, ho9⟩
                have hb9 := below_of_drew hb9
                have W9 := Lib.hid (W8.out.keep hb9)
                have ho9 := Lib.hid ho9
                have p9 : w9.cell? ⟨w1.heap.size, 1, none⟩ = some (.slice AB bs.length cB) := W9.out.pk.cell 1
                have p10 : (w9.alloc (.cells #[.slice A9 (ipL D4 4).length c9, .int .i64 (blockT D4 tn : Int), .bool tf, .bool ti] 67)).cell? ⟨w1.heap.size, 1, none⟩ = some (.slice AB bs.length cB) := (W9.out.pk.alloc _).cell 1
                have hz10 := W9.out.lt
                have hz11 := hb9.size
                clear hb9
                refine hK.out _ _ ?_ (fun hHeld => ?_)
                · trivial
                clear hK K
                try simp only [Act.put, List.setIfInBounds_toArray, List.set_cons_zero, List.set_cons_succ]
                refine wpAnyH_ready (rs := [5]) (by kernel_rfl) (by simp) ?_
                refine AllReadyH.cons (o := { dst := some 109, op := Op.buildSlice 31 1 #[(0, Operand.tmp 108)], type := 31, pos := _, after := #[{ on := 4, ground := Ground.data }], guard := none }) rfl (fun K hK => ?_) AllReadyH.nil
                go_simp
                refine hK.out _ _ ?_ (fun hHeld => ?_)
                · trivial
                clear hK K
                try simp only [Act.put, List.setIfInBounds_toArray, List.set_cons_zero, List.set_cons_succ]
                refine wpAnyH_ready (rs := [6]) (by kernel_rfl) (by simp) ?_
                refine AllReadyH.cons (o := { dst := some 110, op := Op.call { callee := Callee.builtin Builtin.append, args := #[Operand.tmp 105, Operand.tmp 109], argTypes := #[31, 31] }, type := 31, pos := _, after := #[{ on := 1, ground := Ground.data }, { on := 5, ground := Ground.data }, { on := 4, ground := Ground.chain }], guard := none }) rfl (fun K hK => ?_) AllReadyH.nil
                have hbr := (own_base_le ho9.out (base' := w1.heap.size + 1) (show w1.heap.size + 1 ≤ wr.heap.size by omega)).alloc (.cells #[.slice A9 (ipL D4 4).length c9, .int .i64 (blockT D4 tn : Int), .bool tf, .bool ti] 67)
                have W10 := Lib.hid (W9.out.keep (below_new w9 (.cells #[.slice A9 (ipL D4 4).length c9, .int .i64 (blockT D4 tn : Int), .bool tf, .bool ti] 67)))
                refine step_append_lies _ (by rfl) (.tmp 105) (.tmp 109) 31 (by rfl) (w1.heap.size + 1) 67 j0 (.agg #[.slice none 0 0, .int .i64 0, .bool false, .bool false]) 4 40 Tryz.underlying31 HJ0.out HY0.out HY1.out HY2.out rfl (by decide) (.slice AB bs.length cB) bs.length (blocks4 bs) (by rfl) W10.out.blocks ⟨w9.heap.size, 0, none⟩ 1 1 [.slice A9 (ipL D4 4).length c9, .int .i64 (blockT D4 tn : Int), .bool tf, .bool ti] (by rfl) rfl (new_cells w9 _ _) (by intro u hu; simp at hu; rcases hu with rfl | rfl | rfl | rfl <;> rfl) (by decide) (by unfold maxLen; omega) (by omega) (by simp; omega) (w9.heap.size + 1) (by simp) ?_
                intro g11 cap11 w11 hown11 hg11 hat11 hlt11
                have hg11' : (w9.alloc (.cells #[.slice A9 (ipL D4 4).length c9, .int .i64 (blockT D4 tn : Int), .bool tf, .bool ti] 67)).grownBy w11 (Value.slice AB bs.length cB).ownBlock := ⟨hg11.os, hg11.tape, hg11.output, hg11.size, hg11.block⟩
                have B11 := W10.out.pk.grown hg11' (fun e => own_other W10.out.blocks W10.out.pk (by decide) e.symm)
                have k11 : w11.cell? ⟨w1.heap.size, 1, none⟩ = some (.slice AB bs.length cB) := B11.cell 1
                have f11 := B11.free 1
                have HBR := Lib.hid hbr
                have HW11 := Lib.hid hown11
                have HG11 := Lib.hid hg11'
                clear hbr hown11 hg11 hg11' hat11 hlt11 B11
                refine hK.out _ _ ?_ (fun hHeld => ?_)
                · trivial
                clear hK K
                try simp only [Act.put, List.setIfInBounds_toArray, List.set_cons_zero, List.set_cons_succ]
                refine wpAnyH_ready (rs := [7]) (by kernel_rfl) (by simp) ?_
                refine AllReadyH.cons (o := { dst := some 111, op := Op.fieldAddr 33 (Operand.tmp 6) 1, type := 0, pos := _, after := #[{ on := 0, ground := Ground.phase }, { on := 1, ground := Ground.phase }, { on := 2, ground := Ground.phase }, { on := 3, ground := Ground.phase }, { on := 4, ground := Ground.phase }, { on := 5, ground := Ground.phase }, { on := 6, ground := Ground.phase }], guard := none }) rfl (fun K hK => ?_) AllReadyH.nil
                go_simp
                refine hK.out _ _ ?_ (fun hHeld => ?_)
                · trivial
                clear hK K
                try simp only [Act.put, List.setIfInBounds_toArray, List.set_cons_zero, List.set_cons_succ]
                refine wpAnyH_ready (rs := [8]) (by kernel_rfl) (by simp) ?_
                refine AllReadyH.cons (o := { dst := none, op := Op.store 31 (Operand.tmp 111) (Operand.tmp 110), type := 0, pos := _, after := #[{ on := 7, ground := Ground.data }, { on := 6, ground := Ground.data }, { on := 6, ground := Ground.chain }, { on := 0, ground := Ground.phase }, { on := 1, ground := Ground.phase }, { on := 2, ground := Ground.phase }, { on := 3, ground := Ground.phase }, { on := 4, ground := Ground.phase }, { on := 5, ground := Ground.phase }, { on := 6, ground := Ground.phase }], guard := none }) rfl (fun K hK => ?_) AllReadyH.nil
                go_simp
                refine hK.out _ _ ?_ (fun hHeld => ?_)
                · trivial
                clear hK K
                try simp only [Act.put, List.setIfInBounds_toArray, List.set_cons_zero, List.set_cons_succ]
                refine wpAnyH_done (by kernel_rfl) ?_ _
                have W12 := Lib.hid (W10.out.blk (b := ⟨A9, c9, natI (ipL D4 4), (blockT D4 tn : Int), tf, ti⟩) (by simp only [natI_length]; exact HBR.out) (by simp only [BL.cells, natI_length]; exact HW11.out) HG11.out)
                clear k11 f11 p9 p10 p1 n0 n1 n2 n3 m0 m1 m2 hHeld
                go_wp2_with fail
                go_roundw
                case rel => exact ⟨k + 1, _, _, _, by omega, by go_num, W12.out, by rw [List.map_append, HP.out, List.range_succ, List.map_append, List.map_singleton, List.map_singleton, HBD.out, HD.out]; rfl⟩
                case measure => simp [intOf]; omega
              · skip
                go_simp
                refine hK.out _ _ ?_ (fun hHeld => ?_)
                · trivial
                clear hK K
                try simp only [Act.put, List.setIfInBounds_toArray, List.set_cons_zero, List.set_cons_succ]
                refine wpAnyH_ready (rs := [2]) (by kernel_rfl) (by simp) ?_
                refine AllReadyH.cons (o := { dst := some 106, op := Op.load 61 (Operand.tmp 12), type := 61, pos := _, after := #[], guard := none }) rfl (fun K hK => ?_) AllReadyH.nil
                go_simp
                refine hK.out _ _ ?_ (fun hHeld => ?_)
                · trivial
                clear hK K
                try simp only [Act.put, List.setIfInBounds_toArray, List.set_cons_zero, List.set_cons_succ]
                refine wpAnyH_ready (rs := [4]) (by kernel_rfl) (by simp) ?_
                refine AllReadyH.cons (o := { dst := some 108, op := Op.call { callee := Callee.value (Operand.func 28), args := #[Operand.tmp 106, Operand.tmp 107], argTypes := #[61, 64] }, type := 67, pos := _, after := #[{ on := 2, ground := Ground.data }, { on := 3, ground := Ground.data }], guard := none }) rfl (fun K hK => ?_) AllReadyH.nil
                go_simp
                with_reducible refine (HBK.out _).mono ?_
                rintro e w9 ⟨A9, c9, rfl, hb9, ho9⟩
                have hb9 := below_of_drew hb9
                have W9 := Lib.hid (W8.out.keep hb9)
                have ho9 := Lib.hid ho9
                have p9 : w9.cell? ⟨w1.heap.size, 1, none⟩ = some (.slice AB bs.length cB) := W9.out.pk.cell 1
                have p10 : (w9.alloc (.cells #[.slice A9 (ipL D4 4).length c9, .int .i64 (blockT D4 tn : Int), .bool tf, .bool ti] 67)).cell? ⟨w1.heap.size, 1, none⟩ = some (.slice AB bs.length cB) := (W9.out.pk.alloc _).cell 1
                have hz10 := W9.out.lt
                have hz11 := hb9.size
                clear hb9
                refine hK.out _ _ ?_ (fun hHeld => ?_)
                · trivial
                clear hK K
                try simp only [Act.put, List.setIfInBounds_toArray, List.set_cons_zero, List.set_cons_succ]
                refine wpAnyH_ready (rs := [5]) (by kernel_rfl) (by simp) ?_
                refine AllReadyH.cons (o := { dst := some 109, op := Op.buildSlice 31 1 #[(0, Operand.tmp 108)], type := 31, pos := _, after := #[{ on := 4, ground := Ground.data }], guard := none }) rfl (fun K hK => ?_) AllReadyH.nil
                go_simp
                refine hK.out _ _ ?_ (fun hHeld => ?_)
                · trivial
                clear hK K
                try simp only [Act.put, List.setIfInBounds_toArray, List.set_cons_zero, List.set_cons_succ]
                refine wpAnyH_ready (rs := [6]) (by kernel_rfl) (by simp) ?_
                refine AllReadyH.cons (o := { dst := some 110, op := Op.call { callee := Callee.builtin Builtin.append, args := #[Operand.tmp 105, Operand.tmp 109], argTypes := #[31, 31] }, type := 31, pos := _, after := #[{ on := 1, ground := Ground.data }, { on := 5, ground := Ground.data }, { on := 4, ground := Ground.chain }], guard := none }) rfl (fun K hK => ?_) AllReadyH.nil
                have hbr := (own_base_le ho9.out (base' := w1.heap.size + 1) (show w1.heap.size + 1 ≤ wr.heap.size by omega)).alloc (.cells #[.slice A9 (ipL D4 4).length c9, .int .i64 (blockT D4 tn : Int), .bool tf, .bool ti] 67)
                have W10 := Lib.hid (W9.out.keep (below_new w9 (.cells #[.slice A9 (ipL D4 4).length c9, .int .i64 (blockT D4 tn : Int), .bool tf, .bool ti] 67)))
                refine step_append_lies _ (by rfl) (.tmp 105) (.tmp 109) 31 (by rfl) (w1.heap.size + 1) 67 j0 (.agg #[.slice none 0 0, .int .i64 0, .bool false, .bool false]) 4 40 Tryz.underlying31 HJ0.out HY0.out HY1.out HY2.out rfl (by decide) (.slice AB bs.length cB) bs.length (blocks4 bs) (by rfl) W10.out.blocks ⟨w9.heap.size, 0, none⟩ 1 1 [.slice A9 (ipL D4 4).length c9, .int .i64 (blockT D4 tn : Int), .bool tf, .bool ti] (by rfl) rfl (new_cells w9 _ _) (by intro u hu; simp at hu; rcases hu with rfl | rfl | rfl | rfl <;> rfl) (by decide) (by unfold maxLen; omega) (by omega) (by simp; omega) (w9.heap.size + 1) (by simp) ?_
                intro g11 cap11 w11 hown11 hg11 hat11 hlt11
                have hg11' : (w9.alloc (.cells #[.slice A9 (ipL D4 4).length c9, .int .i64 (blockT D4 tn : Int), .bool tf, .bool ti] 67)).grownBy w11 (Value.slice AB bs.length cB).ownBlock := ⟨hg11.os, hg11.tape, hg11.output, hg11.size, hg11.block⟩
                have B11 := W10.out.pk.grown hg11' (fun e => own_other W10.out.blocks W10.out.pk (by decide) e.symm)
                have k11 : w11.cell? ⟨w1.heap.size, 1, none⟩ = some (.slice AB bs.length cB) := B11.cell 1
                have f11 := B11.free 1
                have HBR := Lib.hid hbr
                have HW11 := Lib.hid hown11
                have HG11 := Lib.hid hg11'
                clear hbr hown11 hg11 hg11' hat11 hlt11 B11
                refine hK.out _ _ ?_ (fun hHeld => ?_)
                · trivial
                clear hK K
                try simp only [Act.put, List.setIfInBounds_toArray, List.set_cons_zero, List.set_cons_succ]
                refine wpAnyH_ready (rs := [7]) (by kernel_rfl) (by simp) ?_
                refine AllReadyH.cons (o := { dst := some 111, op := Op.fieldAddr 33 (Operand.tmp 6) 1, type := 0, pos := _, after := #[{ on := 0, ground := Ground.phase }, { on := 1, ground := Ground.phase }, { on := 2, ground := Ground.phase }, { on := 3, ground := Ground.phase }, { on := 4, ground := Ground.phase }, { on := 5, ground := Ground.phase }, { on := 6, ground := Ground.phase }], guard := none }) rfl (fun K hK => ?_) AllReadyH.nil
                go_simp
                refine hK.out _ _ ?_ (fun hHeld => ?_)
                · trivial
                clear hK K
                try simp only [Act.put, List.setIfInBounds_toArray, List.set_cons_zero, List.set_cons_succ]
                refine wpAnyH_ready (rs := [8]) (by kernel_rfl) (by simp) ?_
                refine AllReadyH.cons (o := { dst := none, op := Op.store 31 (Operand.tmp 111) (Operand.tmp 110), type := 0, pos := _, after := #[{ on := 7, ground := Ground.data }, { on := 6, ground := Ground.data }, { on := 6, ground := Ground.chain }, { on := 0, ground := Ground.phase }, { on := 1, ground := Ground.phase }, { on := 2, ground := Ground.phase }, { on := 3, ground := Ground.phase }, { on := 4, ground := Ground.phase }, { on := 5, ground := Ground.phase }, { on := 6, ground := Ground.phase }], guard := none }) rfl (fun K hK => ?_) AllReadyH.nil
                go_simp
                refine hK.out _ _ ?_ (fun hHeld => ?_)
                · trivial
                clear hK K
                try simp only [Act.put, List.setIfInBounds_toArray, List.set_cons_zero, List.set_cons_succ]
                refine wpAnyH_done (by kernel_rfl) ?_ _
                have W12 := Lib.hid (W10.out.blk (b := ⟨A9, c9, natI (ipL D4 4), (blockT D4 tn : Int), tf, ti⟩) (by simp only [natI_length]; exact HBR.out) (by simp only [BL.cells, natI_length]; exact HW11.out) HG11.out)
                clear k11 f11 p9 p10 p1 n0 n1 n2 n3 m0 m1 m2 hHeld
                go_wp2_with fail
                go_roundw
                case rel => exact ⟨k + 1, _, _, _, by omega, by go_num, W12.out, by rw [List.map_append, HP.out, List.range_succ, List.map_append, List.map_singleton, List.map_singleton, HBD.out, HD.out]; rfl⟩
                case measure => simp [intOf]; omega
            · skip
              go_simp
              refine hK.out _ _ ?_ (fun hHeld => ?_)
              · trivial
              clear hK K
              try simp only [Act.put, List.setIfInBounds_toArray, List.set_cons_zero, List.set_cons_succ]
              refine wpAnyH_ready (rs := [1, 3]) (by kernel_rfl) (by simp) ?_
              refine AllReadyH.cons (o := { dst := some 105, op := Op.load 31 (Operand.tmp 104), type := 31, pos := _, after := #[{ on := 0, ground := Ground.data }], guard := none }) rfl (fun K hK => ?_) (AllReadyH.cons (o := { dst := some 107, op := Op.load 64 (Operand.tmp 15), type := 64, pos := _, after := #[], guard := none }) rfl (fun K hK => ?_) AllReadyH.nil)
              · skip
                go_simp
                refine hK.out _ _ ?_ (fun hHeld => ?_)
                · trivial
                clear hK K
                try simp only [Act.put, List.setIfInBounds_toArray, List.set_cons_zero, List.set_cons_succ]
                refine wpAnyH_ready (rs := [3]) (by kernel_rfl) (by simp) ?_
                refine AllReadyH.cons (o := { dst := some 107, op := Op.load 64 (Operand.tmp 15), type := 64, pos := _, after := #[], guard := none }) rfl (fun K hK => ?_) AllReadyH.nil
                go_simp
                refine hK.out _ _ ?_ (fun hHeld => ?_)
                · trivial
                clear hK K
                try simp only [Act.put, List.setIfInBounds_toArray, List.set_cons_zero, List.set_cons_succ]
                refine wpAnyH_ready (rs := [4]) (by kernel_rfl) (by simp) ?_
                refine AllReadyH.cons (o := { dst := some 108, op := Op.call { callee := Callee.value (Operand.func 28), args := #[Operand.tmp 106, Operand.tmp 107], argTypes := #[61, 64] }, type := 67, pos := _, after := #[{ on := 2, ground := Ground.data }, { on := 3, ground := Ground.data }], guard := none }) rfl (fun K hK => ?_) AllReadyH.nil
                go_simp
                with_reducible refine (HBK.out _).mono ?_
                rintro e w9 ⟨A9, c9, rfl, hb9, ho9⟩
                have hb9 := below_of_drew hb9
                have W9 := Lib.hid (W8.out.keep hb9)
                have ho9 := Lib.hid ho9
                have p9 : w9.cell? ⟨w1.heap.size, 1, none⟩ = some (.slice AB bs.length cB) := W9.out.pk.cell 1
                have p10 : (w9.alloc (.cells #[.slice A9 (ipL D4 4).length c9, .int .i64 (blockT D4 tn : Int), .bool tf, .bool ti] 67)).cell? ⟨w1.heap.size, 1, none⟩ = some (.slice AB bs.length cB) := (W9.out.pk.alloc _).cell 1
                have hz10 := W9.out.lt
                have hz11 := hb9.size
                clear hb9
                refine hK.out _ _ ?_ (fun hHeld => ?_)
                · trivial
                clear hK K
                try simp only [Act.put, List.setIfInBounds_toArray, List.set_cons_zero, List.set_cons_succ]
                refine wpAnyH_ready (rs := [5]) (by kernel_rfl) (by simp) ?_
                refine AllReadyH.cons (o := { dst := some 109, op := Op.buildSlice 31 1 #[(0, Operand.tmp 108)], type := 31, pos := _, after := #[{ on := 4, ground := Ground.data }], guard := none }) rfl (fun K hK => ?_) AllReadyH.nil
                go_simp
                refine hK.out _ _ ?_ (fun hHeld => ?_)
                · trivial
                clear hK K
                try simp only [Act.put, List.setIfInBounds_toArray, List.set_cons_zero, List.set_cons_succ]
                refine wpAnyH_ready (rs := [6]) (by kernel_rfl) (by simp) ?_
                refine AllReadyH.cons (o := { dst := some 110, op := Op.call { callee := Callee.builtin Builtin.append, args := #[Operand.tmp 105, Operand.tmp 109], argTypes := #[31, 31] }, type := 31, pos := _, after := #[{ on := 1, ground := Ground.data }, { on := 5, ground := Ground.data }, { on := 4, ground := Ground.chain }], guard := none }) rfl (fun K hK => ?_) AllReadyH.nil
                have hbr := (own_base_le ho9.out (base' := w1.heap.size + 1) (show w1.heap.size + 1 ≤ wr.heap.size by omega)).alloc (.cells #[.slice A9 (ipL D4 4).length c9, .int .i64 (blockT D4 tn : Int), .bool tf, .bool ti] 67)
                have W10 := Lib.hid (W9.out.keep (below_new w9 (.cells #[.slice A9 (ipL D4 4).length c9, .int .i64 (blockT D4 tn : Int), .bool tf, .bool ti] 67)))
                refine step_append_lies _ (by rfl) (.tmp 105) (.tmp 109) 31 (by rfl) (w1.heap.size + 1) 67 j0 (.agg #[.slice none 0 0, .int .i64 0, .bool false, .bool false]) 4 40 Tryz.underlying31 HJ0.out HY0.out HY1.out HY2.out rfl (by decide) (.slice AB bs.length cB) bs.length (blocks4 bs) (by rfl) W10.out.blocks ⟨w9.heap.size, 0, none⟩ 1 1 [.slice A9 (ipL D4 4).length c9, .int .i64 (blockT D4 tn : Int), .bool tf, .bool ti] (by rfl) rfl (new_cells w9 _ _) (by intro u hu; simp at hu; rcases hu with rfl | rfl | rfl | rfl <;> rfl) (by decide) (by unfold maxLen; omega) (by omega) (by simp; omega) (w9.heap.size + 1) (by simp) ?_
                intro g11 cap11 w11 hown11 hg11 hat11 hlt11
                have hg11' : (w9.alloc (.cells #[.slice A9 (ipL D4 4).length c9, .int .i64 (blockT D4 tn : Int), .bool tf, .bool ti] 67)).grownBy w11 (Value.slice AB bs.length cB).ownBlock := ⟨hg11.os, hg11.tape, hg11.output, hg11.size, hg11.block⟩
                have B11 := W10.out.pk.grown hg11' (fun e => own_other W10.out.blocks W10.out.pk (by decide) e.symm)
                have k11 : w11.cell? ⟨w1.heap.size, 1, none⟩ = some (.slice AB bs.length cB) := B11.cell 1
                have f11 := B11.free 1
                have HBR := Lib.hid hbr
                have HW11 := Lib.hid hown11
                have HG11 := Lib.hid hg11'
                clear hbr hown11 hg11 hg11' hat11 hlt11 B11
                refine hK.out _ _ ?_ (fun hHeld => ?_)
                · trivial
                clear hK K
                try simp only [Act.put, List.setIfInBounds_toArray, List.set_cons_zero, List.set_cons_succ]
                refine wpAnyH_ready (rs := [7]) (by kernel_rfl) (by simp) ?_
                refine AllReadyH.cons (o := { dst := some 111, op := Op.fieldAddr 33 (Operand.tmp 6) 1, type := 0, pos := _, after := #[{ on := 0, ground := Ground.phase }, { on := 1, ground := Ground.phase }, { on := 2, ground := Ground.phase }, { on := 3, ground := Ground.phase }, { on := 4, ground := Ground.phase }, { on := 5, ground := Ground.phase }, { on := 6, ground := Ground.phase }], guard := none }) rfl (fun K hK => ?_) AllReadyH.nil
                go_simp
                refine hK.out _ _ ?_ (fun hHeld => ?_)
                · trivial
                clear hK K
                try simp only [Act.put, List.setIfInBounds_toArray, List.set_cons_zero, List.set_cons_succ]
                refine wpAnyH_ready (rs := [8]) (by kernel_rfl) (by simp) ?_
                refine AllReadyH.cons (o := { dst := none, op := Op.store 31 (Operand.tmp 111) (Operand.tmp 110), type := 0, pos := _, after := #[{ on := 7, ground := Ground.data }, { on := 6, ground := Ground.data }, { on := 6, ground := Ground.chain }, { on := 0, ground := Ground.phase }, { on := 1, ground := Ground.phase }, { on := 2, ground := Ground.phase }, { on := 3, ground := Ground.phase }, { on := 4, ground := Ground.phase }, { on := 5, ground := Ground.phase }, { on := 6, ground := Ground.phase }], guard := none }) rfl (fun K hK => ?_) AllReadyH.nil
                go_simp
                refine hK.out _ _ ?_ (fun hHeld => ?_)
                · trivial
                clear hK K
                try simp only [Act.put, List.setIfInBounds_toArray, List.set_cons_zero, List.set_cons_succ]
                refine wpAnyH_done (by kernel_rfl) ?_ _
                have W12 := Lib.hid (W10.out.blk (b := ⟨A9, c9, natI (ipL D4 4), (blockT D4 tn : Int), tf, ti⟩) (by simp only [natI_length]; exact HBR.out) (by simp only [BL.cells, natI_length]; exact HW11.out) HG11.out)
                clear k11 f11 p9 p10 p1 n0 n1 n2 n3 m0 m1 m2 hHeld
                go_wp2_with fail
                go_roundw
                case rel => exact ⟨k + 1, _, _, _, by omega, by go_num, W12.out, by rw [List.map_append, HP.out, List.range_succ, List.map_append, List.map_singleton, List.map_singleton, HBD.out, HD.out]; rfl⟩
                case measure => simp [intOf]; omega
              · skip
                go_simp
                refine hK.out _ _ ?_ (fun hHeld => ?_)
                · trivial
                clear hK K
                try simp only [Act.put, List.setIfInBounds_toArray, List.set_cons_zero, List.set_cons_succ]
                refine wpAnyH_ready (rs := [1, 4]) (by kernel_rfl) (by simp) ?_
                refine AllReadyH.cons (o := { dst := some 105, op := Op.load 31 (Operand.tmp 104), type := 31, pos := _, after := #[{ on := 0, ground := Ground.data }], guard := none }) rfl (fun K hK => ?_) (AllReadyH.cons (o := { dst := some 108, op := Op.call { callee := Callee.value (Operand.func 28), args := #[Operand.tmp 106, Operand.tmp 107], argTypes := #[61, 64] }, type := 67, pos := _, after := #[{ on := 2, ground := Ground.data }, { on := 3, ground := Ground.data }], guard := none }) rfl (fun K hK => ?_) AllReadyH.nil)
                · skip
                  go_simp
                  refine hK.out _ _ ?_ (fun hHeld => ?_)
                  · trivial
                  clear hK K
                  try simp only [Act.put, List.setIfInBounds_toArray, List.set_cons_zero, List.set_cons_succ]
                  refine wpAnyH_ready (rs := [4]) (by kernel_rfl) (by simp) ?_
                  refine AllReadyH.cons (o := { dst := some 108, op := Op.call { callee := Callee.value (Operand.func 28), args := #[Operand.tmp 106, Operand.tmp 107], argTypes := #[61, 64] }, type := 67, pos := _, after := #[{ on := 2, ground := Ground.data }, { on := 3, ground := Ground.data }], guard := none }) rfl (fun K hK => ?_) AllReadyH.nil
                  go_simp
                  with_reducible refine (HBK.out _).mono ?_
                  rintro e w9 ⟨A9, c9, rfl, hb9, ho9⟩
                  have hb9 := below_of_drew hb9
                  have W9 := Lib.hid (W8.out.keep hb9)
                  have ho9 := Lib.hid ho9
                  have p9 : w9.cell? ⟨w1.heap.size, 1, none⟩ = some (.slice AB bs.length cB) := W9.out.pk.cell 1
                  have p10 : (w9.alloc (.cells #[.slice A9 (ipL D4 4).length c9, .int .i64 (blockT D4 tn : Int), .bool tf, .bool ti] 67)).cell? ⟨w1.heap.size, 1, none⟩ = some (.slice AB bs.length cB) := (W9.out.pk.alloc _).cell 1
                  have hz10 := W9.out.lt
                  have hz11 := hb9.size
                  clear hb9
                  refine hK.out _ _ ?_ (fun hHeld => ?_)
                  · trivial
                  clear hK K
                  try simp only [Act.put, List.setIfInBounds_toArray, List.set_cons_zero, List.set_cons_succ]
                  refine wpAnyH_ready (rs := [5]) (by kernel_rfl) (by simp) ?_
                  refine AllReadyH.cons (o := { dst := some 109, op := Op.buildSlice 31 1 #[(0, Operand.tmp 108)], type := 31, pos := _, after := #[{ on := 4, ground := Ground.data }], guard := none }) rfl (fun K hK => ?_) AllReadyH.nil
                  go_simp
                  refine hK.out _ _ ?_ (fun hHeld => ?_)
                  · trivial
                  clear hK K
                  try simp only [Act.put, List.setIfInBounds_toArray, List.set_cons_zero, List.set_cons_succ]
                  refine wpAnyH_ready (rs := [6]) (by kernel_rfl) (by simp) ?_
                  refine AllReadyH.cons (o := { dst := some 110, op := Op.call { callee := Callee.builtin Builtin.append, args := #[Operand.tmp 105, Operand.tmp 109], argTypes := #[31, 31] }, type := 31, pos := _, after := #[{ on := 1, ground := Ground.data }, { on := 5, ground := Ground.data }, { on := 4, ground := Ground.chain }], guard := none }) rfl (fun K hK => ?_) AllReadyH.nil
                  have hbr := (own_base_le ho9.out (base' := w1.heap.size + 1) (show w1.heap.size + 1 ≤ wr.heap.size by omega)).alloc (.cells #[.slice A9 (ipL D4 4).length c9, .int .i64 (blockT D4 tn : Int), .bool tf, .bool ti] 67)
                  have W10 := Lib.hid (W9.out.keep (below_new w9 (.cells #[.slice A9 (ipL D4 4).length c9, .int .i64 (blockT D4 tn : Int), .bool tf, .bool ti] 67)))
                  refine step_append_lies _ (by rfl) (.tmp 105) (.tmp 109) 31 (by rfl) (w1.heap.size + 1) 67 j0 (.agg #[.slice none 0 0, .int .i64 0, .bool false, .bool false]) 4 40 Tryz.underlying31 HJ0.out HY0.out HY1.out HY2.out rfl (by decide) (.slice AB bs.length cB) bs.length (blocks4 bs) (by rfl) W10.out.blocks ⟨w9.heap.size, 0, none⟩ 1 1 [.slice A9 (ipL D4 4).length c9, .int .i64 (blockT D4 tn : Int), .bool tf, .bool ti] (by rfl) rfl (new_cells w9 _ _) (by intro u hu; simp at hu; rcases hu with rfl | rfl | rfl | rfl <;> rfl) (by decide) (by unfold maxLen; omega) (by omega) (by simp; omega) (w9.heap.size + 1) (by simp) ?_
                  intro g11 cap11 w11 hown11 hg11 hat11 hlt11
                  have hg11' : (w9.alloc (.cells #[.slice A9 (ipL D4 4).length c9, .int .i64 (blockT D4 tn : Int), .bool tf, .bool ti] 67)).grownBy w11 (Value.slice AB bs.length cB).ownBlock := ⟨hg11.os, hg11.tape, hg11.output, hg11.size, hg11.block⟩
                  have B11 := W10.out.pk.grown hg11' (fun e => own_other W10.out.blocks W10.out.pk (by decide) e.symm)
                  have k11 : w11.cell? ⟨w1.heap.size, 1, none⟩ = some (.slice AB bs.length cB) := B11.cell 1
                  have f11 := B11.free 1
                  have HBR := Lib.hid hbr
                  have HW11 := Lib.hid hown11
                  have HG11 := Lib.hid hg11'
                  clear hbr hown11 hg11 hg11' hat11 hlt11 B11
                  refine hK.out _ _ ?_ (fun hHeld => ?_)
                  · trivial
                  clear hK K
                  try simp only [Act.put, List.setIfInBounds_toArray, List.set_cons_zero, List.set_cons_succ]
                  refine wpAnyH_ready (rs := [7]) (by kernel_rfl) (by simp) ?_
                  refine AllReadyH.cons (o := { dst := some 111, op := Op.fieldAddr 33 (Operand.tmp 6) 1, type := 0, pos := _, after := #[{ on := 0, ground := Ground.phase }, { on := 1, ground := Ground.phase }, { on := 2, ground := Ground.phase }, { on := 3, ground := Ground.phase }, { on := 4, ground := Ground.phase }, { on := 5, ground := Ground.phase }, { on := 6, ground := Ground.phase }], guard := none }) rfl (fun K hK => ?_) AllReadyH.nil
                  go_simp
                  refine hK.out _ _ ?_ (fun hHeld => ?_)
                  · trivial
                  clear hK K
                  try simp only [Act.put, List.setIfInBounds_toArray, List.set_cons_zero, List.set_cons_succ]
                  refine wpAnyH_ready (rs := [8]) (by kernel_rfl) (by simp) ?_
                  refine AllReadyH.cons (o := { dst := none, op := Op.store 31 (Operand.tmp 111) (Operand.tmp 110), type := 0, pos := _, after := #[{ on := 7, ground := Ground.data }, { on := 6, ground := Ground.data }, { on := 6, ground := Ground.chain }, { on := 0, ground := Ground.phase }, { on := 1, ground := Ground.phase }, { on := 2, ground := Ground.phase }, { on := 3, ground := Ground.phase }, { on := 4, ground := Ground.phase }, { on := 5, ground := Ground.phase }, { on := 6, ground := Ground.phase }], guard := none }) rfl (fun K hK => ?_) AllReadyH.nil
                  go_simp
                  refine hK.out _ _ ?_ (fun hHeld => ?_)
                  · trivial
                  clear hK K
                  try simp only [Act.put, List.setIfInBounds_toArray, List.set_cons_zero, List.set_cons_succ]
                  refine wpAnyH_done (by kernel_rfl) ?_ _
                  have W12 := Lib.hid (W10.out.blk (b := ⟨A9, c9, natI (ipL D4 4), (blockT D4 tn : Int), tf, ti⟩) (by simp only [natI_length]; exact HBR.out) (by simp only [BL.cells, natI_length]; exact HW11.out) HG11.out)
                  clear k11 f11 p9 p10 p1 n0 n1 n2 n3 m0 m1 m2 hHeld
                  go_wp2_with fail
                  go_roundw
                  case rel => exact ⟨k + 1, _, _, _, by omega, by go_num, W12.out, by rw [List.map_append, HP.out, List.range_succ, List.map_append, List.map_singleton, List.map_singleton, HBD.out, HD.out]; rfl⟩
                  case measure => simp [intOf]; omega
                · skip
                  go_simp
                  with_reducible refine (HBK.out _).mono ?_
                  rintro e w9 ⟨A9, c9, rfl, hb9, ho9⟩
                  have hb9 := below_of_drew hb9
                  have W9 := Lib.hid (W8.out.keep hb9)
                  have ho9 := Lib.hid ho9
                  have p9 : w9.cell? ⟨w1.heap.size, 1, none⟩ = some (.slice AB bs.length cB) := W9.out.pk.cell 1
                  have p10 : (w9.alloc (.cells #[.slice A9 (ipL D4 4).length c9, .int .i64 (blockT D4 tn : Int), .bool tf, .bool ti] 67)).cell? ⟨w1.heap.size, 1, none⟩ = some (.slice AB bs.length cB) := (W9.out.pk.alloc _).cell 1
                  have hz10 := W9.out.lt
                  have hz11 := hb9.size
                  clear hb9
                  refine hK.out _ _ ?_ (fun hHeld => ?_)
                  · trivial
                  clear hK K
                  try simp only [Act.put, List.setIfInBounds_toArray, List.set_cons_zero, List.set_cons_succ]
                  refine wpAnyH_ready (rs := [1, 5]) (by kernel_rfl) (by simp) ?_
                  refine AllReadyH.cons (o := { dst := some 105, op := Op.load 31 (Operand.tmp 104), type := 31, pos := _, after := #[{ on := 0, ground := Ground.data }], guard := none }) rfl (fun K hK => ?_) (AllReadyH.cons (o := { dst := some 109, op := Op.buildSlice 31 1 #[(0, Operand.tmp 108)], type := 31, pos := _, after := #[{ on := 4, ground := Ground.data }], guard := none }) rfl (fun K hK => ?_) AllReadyH.nil)
                  · skip
                    go_simp
                    refine hK.out _ _ ?_ (fun hHeld => ?_)
                    · trivial
                    clear hK K
                    try simp only [Act.put, List.setIfInBounds_toArray, List.set_cons_zero, List.set_cons_succ]
                    refine wpAnyH_ready (rs := [5]) (by kernel_rfl) (by simp) ?_
                    refine AllReadyH.cons (o := { dst := some 109, op := Op.buildSlice 31 1 #[(0, Operand.tmp 108)], type := 31, pos := _, after := #[{ on := 4, ground := Ground.data }], guard := none }) rfl (fun K hK => ?_) AllReadyH.nil
                    go_simp
                    refine hK.out _ _ ?_ (fun hHeld => ?_)
                    · trivial
                    clear hK K
                    try simp only [Act.put, List.setIfInBounds_toArray, List.set_cons_zero, List.set_cons_succ]
                    refine wpAnyH_ready (rs := [6]) (by kernel_rfl) (by simp) ?_
                    refine AllReadyH.cons (o := { dst := some 110, op := Op.call { callee := Callee.builtin Builtin.append, args := #[Operand.tmp 105, Operand.tmp 109], argTypes := #[31, 31] }, type := 31, pos := _, after := #[{ on := 1, ground := Ground.data }, { on := 5, ground := Ground.data }, { on := 4, ground := Ground.chain }], guard := none }) rfl (fun K hK => ?_) AllReadyH.nil
                    have hbr := (own_base_le ho9.out (base' := w1.heap.size + 1) (show w1.heap.size + 1 ≤ wr.heap.size by omega)).alloc (.cells #[.slice A9 (ipL D4 4).length c9, .int .i64 (blockT D4 tn : Int), .bool tf, .bool ti] 67)
                    have W10 := Lib.hid (W9.out.keep (below_new w9 (.cells #[.slice A9 (ipL D4 4).length c9, .int .i64 (blockT D4 tn : Int), .bool tf, .bool ti] 67)))
                    refine step_append_lies _ (by rfl) (.tmp 105) (.tmp 109) 31 (by rfl) (w1.heap.size + 1) 67 j0 (.agg #[.slice none 0 0, .int .i64 0, .bool false, .bool false]) 4 40 Tryz.underlying31 HJ0.out HY0.out HY1.out HY2.out rfl (by decide) (.slice AB bs.length cB) bs.length (blocks4 bs) (by rfl) W10.out.blocks ⟨w9.heap.size, 0, none⟩ 1 1 [.slice A9 (ipL D4 4).length c9, .int .i64 (blockT D4 tn : Int), .bool tf, .bool ti] (by rfl) rfl (new_cells w9 _ _) (by intro u hu; simp at hu; rcases hu with rfl | rfl | rfl | rfl <;> rfl) (by decide) (by unfold maxLen; omega) (by omega) (by simp; omega) (w9.heap.size + 1) (by simp) ?_
                    intro g11 cap11 w11 hown11 hg11 hat11 hlt11
                    have hg11' : (w9.alloc (.cells #[.slice A9 (ipL D4 4).length c9, .int .i64 (blockT D4 tn : Int), .bool tf, .bool ti] 67)).grownBy w11 (Value.slice AB bs.length cB).ownBlock := ⟨hg11.os, hg11.tape, hg11.output, hg11.size, hg11.block⟩
                    have B11 := W10.out.pk.grown hg11' (fun e => own_other W10.out.blocks W10.out.pk (by decide) e.symm)
                    have k11 : w11.cell? ⟨w1.heap.size, 1, none⟩ = some (.slice AB bs.length cB) := B11.cell 1
                    have f11 := B11.free 1
                    have HBR := Lib.hid hbr
                    have HW11 := Lib.hid hown11
                    have HG11 := Lib.hid hg11'
                    clear hbr hown11 hg11 hg11' hat11 hlt11 B11
                    refine hK.out _ _ ?_ (fun hHeld => ?_)
                    · trivial
                    clear hK K
                    try simp only [Act.put, List.setIfInBounds_toArray, List.set_cons_zero, List.set_cons_succ]
                    refine wpAnyH_ready (rs := [7]) (by kernel_rfl) (by simp) ?_
                    refine AllReadyH.cons (o := { dst := some 111, op := Op.fieldAddr 33 (Operand.tmp 6) 1, type := 0, pos := _, after := #[{ on := 0, ground := Ground.phase }, { on := 1, ground := Ground.phase }, { on := 2, ground := Ground.phase }, { on := 3, ground := Ground.phase }, { on := 4, ground := Ground.phase }, { on := 5, ground := Ground.phase }, { on := 6, ground := Ground.phase }], guard := none }) rfl (fun K hK => ?_) AllReadyH.nil
                    go_simp
                    refine hK.out _ _ ?_ (fun hHeld => ?_)
                    · trivial
                    clear hK K
                    try simp only [Act.put, List.setIfInBounds_toArray, List.set_cons_zero, List.set_cons_succ]
                    refine wpAnyH_ready (rs := [8]) (by kernel_rfl) (by simp) ?_
                    refine AllReadyH.cons (o := { dst := none, op := Op.store 31 (Operand.tmp 111) (Operand.tmp 110), type := 0, pos := _, after := #[{ on := 7, ground := Ground.data }, { on := 6, ground := Ground.data }, { on := 6, ground := Ground.chain }, { on := 0, ground := Ground.phase }, { on := 1, ground := Ground.phase }, { on := 2, ground := Ground.phase }, { on := 3, ground := Ground.phase }, { on := 4, ground := Ground.phase }, { on := 5, ground := Ground.phase }, { on := 6, ground := Ground.phase }], guard := none }) rfl (fun K hK => ?_) AllReadyH.nil
                    go_simp
                    refine hK.out _ _ ?_ (fun hHeld => ?_)
                    · trivial
                    clear hK K
                    try simp only [Act.put, List.setIfInBounds_toArray, List.set_cons_zero, List.set_cons_succ]
                    refine wpAnyH_done (by kernel_rfl) ?_ _
                    have W12 := Lib.hid (W10.out.blk (b := ⟨A9, c9, natI (ipL D4 4), (blockT D4 tn : Int), tf, ti⟩) (by simp only [natI_length]; exact HBR.out) (by simp only [BL.cells, natI_length]; exact HW11.out) HG11.out)
                    clear k11 f11 p9 p10 p1 n0 n1 n2 n3 m0 m1 m2 hHeld
                    go_wp2_with fail
                    go_roundw
                    case rel => exact ⟨k + 1, _, _, _, by omega, by go_num, W12.out, by rw [List.map_append, HP.out, List.range_succ, List.map_append, List.map_singleton, List.map_singleton, HBD.out, HD.out]; rfl⟩
                    case measure => simp [intOf]; omega
                  · skip
                    go_simp
                    refine hK.out _ _ ?_ (fun hHeld => ?_)
                    · trivial
                    clear hK K
                    try simp only [Act.put, List.setIfInBounds_toArray, List.set_cons_zero, List.set_cons_succ]
                    refine wpAnyH_ready (rs := [1]) (by kernel_rfl) (by simp) ?_
                    refine AllReadyH.cons (o := { dst := some 105, op := Op.load 31 (Operand.tmp 104), type := 31, pos := _, after := #[{ on := 0, ground := Ground.data }], guard := none }) rfl (fun K hK => ?_) AllReadyH.nil
                    go_simp
                    refine hK.out _ _ ?_ (fun hHeld => ?_)
                    · trivial
                    clear hK K
                    try simp only [Act.put, List.setIfInBounds_toArray, List.set_cons_zero, List.set_cons_succ]
                    refine wpAnyH_ready (rs := [6]) (by kernel_rfl) (by simp) ?_
                    refine AllReadyH.cons (o := { dst := some 110, op := Op.call { callee := Callee.builtin Builtin.append, args := #[Operand.tmp 105, Operand.tmp 109], argTypes := #[31, 31] }, type := 31, pos := _, after := #[{ on := 1, ground := Ground.data }, { on := 5, ground := Ground.data }, { on := 4, ground := Ground.chain }], guard := none }) rfl (fun K hK => ?_) AllReadyH.nil
                    have hbr := (own_base_le ho9.out (base' := w1.heap.size + 1) (show w1.heap.size + 1 ≤ wr.heap.size by omega)).alloc (.cells #[.slice A9 (ipL D4 4).length c9, .int .i64 (blockT D4 tn : Int), .bool tf, .bool ti] 67)
                    have W10 := Lib.hid (W9.out.keep (below_new w9 (.cells #[.slice A9 (ipL D4 4).length c9, .int .i64 (blockT D4 tn : Int), .bool tf, .bool ti] 67)))
                    refine step_append_lies _ (by rfl) (.tmp 105) (.tmp 109) 31 (by rfl) (w1.heap.size + 1) 67 j0 (.agg #[.slice none 0 0, .int .i64 0, .bool false, .bool false]) 4 40 Tryz.underlying31 HJ0.out HY0.out HY1.out HY2.out rfl (by decide) (.slice AB bs.length cB) bs.length (blocks4 bs) (by rfl) W10.out.blocks ⟨w9.heap.size, 0, none⟩ 1 1 [.slice A9 (ipL D4 4).length c9, .int .i64 (blockT D4 tn : Int), .bool tf, .bool ti] (by rfl) rfl (new_cells w9 _ _) (by intro u hu; simp at hu; rcases hu with rfl | rfl | rfl | rfl <;> rfl) (by decide) (by unfold maxLen; omega) (by omega) (by simp; omega) (w9.heap.size + 1) (by simp) ?_
                    intro g11 cap11 w11 hown11 hg11 hat11 hlt11
                    have hg11' : (w9.alloc (.cells #[.slice A9 (ipL D4 4).length c9, .int .i64 (blockT D4 tn : Int), .bool tf, .bool ti] 67)).grownBy w11 (Value.slice AB bs.length cB).ownBlock := ⟨hg11.os, hg11.tape, hg11.output, hg11.size, hg11.block⟩
                    have B11 := W10.out.pk.grown hg11' (fun e => own_other W10.out.blocks W10.out.pk (by decide) e.symm)
                    have k11 : w11.cell? ⟨w1.heap.size, 1, none⟩ = some (.slice AB bs.length cB) := B11.cell 1
                    have f11 := B11.free 1
                    have HBR := Lib.hid hbr
                    have HW11 := Lib.hid hown11
                    have HG11 := Lib.hid hg11'
                    clear hbr hown11 hg11 hg11' hat11 hlt11 B11
                    refine hK.out _ _ ?_ (fun hHeld => ?_)
                    · trivial
                    clear hK K
                    try simp only [Act.put, List.setIfInBounds_toArray, List.set_cons_zero, List.set_cons_succ]
                    refine wpAnyH_ready (rs := [7]) (by kernel_rfl) (by simp) ?_
                    refine AllReadyH.cons (o := { dst := some 111, op := Op.fieldAddr 33 (Operand.tmp 6) 1, type := 0, pos := _, after := #[{ on := 0, ground := Ground.phase }, { on := 1, ground := Ground.phase }, { on := 2, ground := Ground.phase }, { on := 3, ground := Ground.phase }, { on := 4, ground := Ground.phase }, { on := 5, ground := Ground.phase }, { on := 6, ground := Ground.phase }], guard := none }) rfl (fun K hK => ?_) AllReadyH.nil
                    go_simp
                    refine hK.out _ _ ?_ (fun hHeld => ?_)
                    · trivial
                    clear hK K
                    try simp only [Act.put, List.setIfInBounds_toArray, List.set_cons_zero, List.set_cons_succ]
                    refine wpAnyH_ready (rs := [8]) (by kernel_rfl) (by simp) ?_
                    refine AllReadyH.cons (o := { dst := none, op := Op.store 31 (Operand.tmp 111) (Operand.tmp 110), type := 0, pos := _, after := #[{ on := 7, ground := Ground.data }, { on := 6, ground := Ground.data }, { on := 6, ground := Ground.chain }, { on := 0, ground := Ground.phase }, { on := 1, ground := Ground.phase }, { on := 2, ground := Ground.phase }, { on := 3, ground := Ground.phase }, { on := 4, ground := Ground.phase }, { on := 5, ground := Ground.phase }, { on := 6, ground := Ground.phase }], guard := none }) rfl (fun K hK => ?_) AllReadyH.nil
                    go_simp
                    refine hK.out _ _ ?_ (fun hHeld => ?_)
                    · trivial
                    clear hK K
                    try simp only [Act.put, List.setIfInBounds_toArray, List.set_cons_zero, List.set_cons_succ]
                    refine wpAnyH_done (by kernel_rfl) ?_ _
                    have W12 := Lib.hid (W10.out.blk (b := ⟨A9, c9, natI (ipL D4 4), (blockT D4 tn : Int), tf, ti⟩) (by simp only [natI_length]; exact HBR.out) (by simp only [BL.cells, natI_length]; exact HW11.out) HG11.out)
                    clear k11 f11 p9 p10 p1 n0 n1 n2 n3 m0 m1 m2 hHeld
                    go_wp2_with fail
                    go_roundw
                    case rel => exact ⟨k + 1, _, _, _, by omega, by go_num, W12.out, by rw [List.map_append, HP.out, List.range_succ, List.map_append, List.map_singleton, List.map_singleton, HBD.out, HD.out]; rfl⟩
                    case measure => simp [intOf]; omega
            · skip
              go_simp
              refine hK.out _ _ ?_ (fun hHeld => ?_)
              · trivial
              clear hK K
              try simp only [Act.put, List.setIfInBounds_toArray, List.set_cons_zero, List.set_cons_succ]
              refine wpAnyH_ready (rs := [1, 2]) (by kernel_rfl) (by simp) ?_
              refine AllReadyH.cons (o := { dst := some 105, op := Op.load 31 (Operand.tmp 104), type := 31, pos := _, after := #[{ on := 0, ground := Ground.data }], guard := none }) rfl (fun K hK => ?_) (AllReadyH.cons (o := { dst := some 106, op := Op.load 61 (Operand.tmp 12), type := 61, pos := _, after := #[], guard := none }) rfl (fun K hK => ?_) AllReadyH.nil)
              · skip
                go_simp
                refine hK.out _ _ ?_ (fun hHeld => ?_)
                · trivial
                clear hK K
                try simp only [Act.put, List.setIfInBounds_toArray, List.set_cons_zero, List.set_cons_succ]
                refine wpAnyH_ready (rs := [2]) (by kernel_rfl) (by simp) ?_
                refine AllReadyH.cons (o := { dst := some 106, op := Op.load 61 (Operand.tmp 12), type := 61, pos := _, after := #[], guard := none }) rfl (fun K hK => ?_) AllReadyH.nil
                go_simp
                refine hK.out _ _ ?_ (fun hHeld => ?_)
                · trivial
                clear hK K
                try simp only [Act.put, List.setIfInBounds_toArray, List.set_cons_zero, List.set_cons_succ]
                refine wpAnyH_ready (rs := [4]) (by kernel_rfl) (by simp) ?_
                refine AllReadyH.cons (o := { dst := some 108, op := Op.call { callee := Callee.value (Operand.func 28), args := #[Operand.tmp 106, Operand.tmp 107], argTypes := #[61, 64] }, type := 67, pos := _, after := #[{ on := 2, ground := Ground.data }, { on := 3, ground := Ground.data }], guard := none }) rfl (fun K hK => ?_) AllReadyH.nil
                go_simp
                with_reducible refine (HBK.out _).mono ?_
                rintro e w9 ⟨A9, c9, rfl, hb9, ho9⟩
                have hb9 := below_of_drew hb9
                have W9 := Lib.hid (W8.out.keep hb9)
                have ho9 := Lib.hid ho9
                have p9 : w9.cell? ⟨w1.heap.size, 1, none⟩ = some (.slice AB bs.length cB) := W9.out.pk.cell 1
                have p10 : (w9.alloc (.cells #[.slice A9 (ipL D4 4).length c9, .int .i64 (blockT D4 tn : Int), .bool tf, .bool ti] 67)).cell? ⟨w1.heap.size, 1, none⟩ = some (.slice AB bs.length cB) := (W9.out.pk.alloc _).cell 1
                have hz10 := W9.out.lt
                have hz11 := hb9.size
                clear hb9
                refine hK.out _ _ ?_ (fun hHeld => ?_)
                · trivial
                clear hK K
                try simp only [Act.put, List.setIfInBounds_toArray, List.set_cons_zero, List.set_cons_succ]
                refine wpAnyH_ready (rs := [5]) (by kernel_rfl) (by simp) ?_
                refine AllReadyH.cons (o := { dst := some 109, op := Op.buildSlice 31 1 #[(0, Operand.tmp 108)], type := 31, pos := _, after := #[{ on := 4, ground := Ground.data }], guard := none }) rfl (fun K hK => ?_) AllReadyH.nil
                go_simp
                refine hK.out _ _ ?_ (fun hHeld => ?_)
                · trivial
                clear hK K
                try simp only [Act.put, List.setIfInBounds_toArray, List.set_cons_zero, List.set_cons_succ]
                refine wpAnyH_ready (rs := [6]) (by kernel_rfl) (by simp) ?_
                refine AllReadyH.cons (o := { dst := some 110, op := Op.call { callee := Callee.builtin Builtin.append, args := #[Operand.tmp 105, Operand.tmp 109], argTypes := #[31, 31] }, type := 31, pos := _, after := #[{ on := 1, ground := Ground.data }, { on := 5, ground := Ground.data }, { on := 4, ground := Ground.chain }], guard := none }) rfl (fun K hK => ?_) AllReadyH.nil
                have hbr := (own_base_le ho9.out (base' := w1.heap.size + 1) (show w1.heap.size + 1 ≤ wr.heap.size by omega)).alloc (.cells #[.slice A9 (ipL D4 4).length c9, .int .i64 (blockT D4 tn : Int), .bool tf, .bool ti] 67)
                have W10 := Lib.hid (W9.out.keep (below_new w9 (.cells #[.slice A9 (ipL D4 4).length c9, .int .i64 (blockT D4 tn : Int), .bool tf, .bool ti] 67)))
                refine step_append_lies _ (by rfl) (.tmp 105) (.tmp 109) 31 (by rfl) (w1.heap.size + 1) 67 j0 (.agg #[.slice none 0 0, .int .i64 0, .bool false, .bool false]) 4 40 Tryz.underlying31 HJ0.out HY0.out HY1.out HY2.out rfl (by decide) (.slice AB bs.length cB) bs.length (blocks4 bs) (by rfl) W10.out.blocks ⟨w9.heap.size, 0, none⟩ 1 1 [.slice A9 (ipL D4 4).length c9, .int .i64 (blockT D4 tn : Int), .bool tf, .bool ti] (by rfl) rfl (new_cells w9 _ _) (by intro u hu; simp at hu; rcases hu with rfl | rfl | rfl | rfl <;> rfl) (by decide) (by unfold maxLen; omega) (by omega) (by simp; omega) (w9.heap.size + 1) (by simp) ?_
                intro g11 cap11 w11 hown11 hg11 hat11 hlt11
                have hg11' : (w9.alloc (.cells #[.slice A9 (ipL D4 4).length c9, .int .i64 (blockT D4 tn : Int), .bool tf, .bool ti] 67)).grownBy w11 (Value.slice AB bs.length cB).ownBlock := ⟨hg11.os, hg11.tape, hg11.output, hg11.size, hg11.block⟩
                have B11 := W10.out.pk.grown hg11' (fun e => own_other W10.out.blocks W10.out.pk (by decide) e.symm)
                have k11 : w11.cell? ⟨w1.heap.size, 1, none⟩ = some (.slice AB bs.length cB) := B11.cell 1
                have f11 := B11.free 1
                have HBR := Lib.hid hbr
                have HW11 := Lib.hid hown11
                have HG11 := Lib.hid hg11'
                clear hbr hown11 hg11 hg11' hat11 hlt11 B11
                refine hK.out _ _ ?_ (fun hHeld => ?_)
                · trivial
                clear hK K
                try simp only [Act.put, List.setIfInBounds_toArray, List.set_cons_zero, List.set_cons_succ]
                refine wpAnyH_ready (rs := [7]) (by kernel_rfl) (by simp) ?_
                refine AllReadyH.cons (o := { dst := some 111, op := Op.fieldAddr 33 (Operand.tmp 6) 1, type := 0, pos := _, after := #[{ on := 0, ground := Ground.phase }, { on := 1, ground := Ground.phase }, { on := 2, ground := Ground.phase }, { on := 3, ground := Ground.phase }, { on := 4, ground := Ground.phase }, { on := 5, ground := Ground.phase }, { on := 6, ground := Ground.phase }], guard := none }) rfl (fun K hK => ?_) AllReadyH.nil
                go_simp
                refine hK.out _ _ ?_ (fun hHeld => ?_)
                · trivial
                clear hK K
                try simp only [Act.put, List.setIfInBounds_toArray, List.set_cons_zero, List.set_cons_succ]
                refine wpAnyH_ready (rs := [8]) (by kernel_rfl) (by simp) ?_
                refine AllReadyH.cons (o := { dst := none, op := Op.store 31 (Operand.tmp 111) (Operand.tmp 110), type := 0, pos := _, after := #[{ on := 7, ground := Ground.data }, { on := 6, ground := Ground.data }, { on := 6, ground := Ground.chain }, { on := 0, ground := Ground.phase }, { on := 1, ground := Ground.phase }, { on := 2, ground := Ground.phase }, { on := 3, ground := Ground.phase }, { on := 4, ground := Ground.phase }, { on := 5, ground := Ground.phase }, { on := 6, ground := Ground.phase }], guard := none }) rfl (fun K hK => ?_) AllReadyH.nil
                go_simp
                refine hK.out _ _ ?_ (fun hHeld => ?_)
                · trivial
                clear hK K
                try simp only [Act.put, List.setIfInBounds_toArray, List.set_cons_zero, List.set_cons_succ]
                refine wpAnyH_done (by kernel_rfl) ?_ _
                have W12 := Lib.hid (W10.out.blk (b := ⟨A9, c9, natI (ipL D4 4), (blockT D4 tn : Int), tf, ti⟩) (by simp only [natI_length]; exact HBR.out) (by simp only [BL.cells, natI_length]; exact HW11.out) HG11.out)
                clear k11 f11 p9 p10 p1 n0 n1 n2 n3 m0 m1 m2 hHeld
                go_wp2_with fail
                go_roundw
                case rel => exact ⟨k + 1, _, _, _, by omega, by go_num, W12.out, by rw [List.map_append, HP.out, List.range_succ, List.map_append, List.map_singleton, List.map_singleton, HBD.out, HD.out]; rfl⟩
                case measure => simp [intOf]; omega
              · skip
                go_simp
                refine hK.out _ _ ?_ (fun hHeld => ?_)
                · trivial
                clear hK K
                try simp only [Act.put, List.setIfInBounds_toArray, List.set_cons_zero, List.set_cons_succ]
                refine wpAnyH_ready (rs := [1, 4]) (by kernel_rfl) (by simp) ?_
                refine AllReadyH.cons (o := { dst := some 105, op := Op.load 31 (Operand.tmp 104), type := 31, pos := _, after := #[{ on := 0, ground := Ground.data }], guard := none }) rfl (fun K hK => ?_) (AllReadyH.cons (o := { dst := some 108, op := Op.call { callee := Callee.value (Operand.func 28), args := #[Operand.tmp 106, Operand.tmp 107], argTypes := #[61, 64] }, type := 67, pos := _, after := #[{ on := 2, ground := Ground.data }, { on := 3, ground := Ground.data }], guard := none }) rfl (fun K hK => ?_) AllReadyH.nil)
                · skip
                  go_simp
                  refine hK.out _ _ ?_ (fun hHeld => ?_)
                  · trivial
                  clear hK K
                  try simp only [Act.put, List.setIfInBounds_toArray, List.set_cons_zero, List.set_cons_succ]
                  refine wpAnyH_ready (rs := [4]) (by kernel_rfl) (by simp) ?_
                  refine AllReadyH.cons (o := { dst := some 108, op := Op.call { callee := Callee.value (Operand.func 28), args := #[Operand.tmp 106, Operand.tmp 107], argTypes := #[61, 64] }, type := 67, pos := _, after := #[{ on := 2, ground := Ground.data }, { on := 3, ground := Ground.data }], guard := none }) rfl (fun K hK => ?_) AllReadyH.nil
                  go_simp
                  with_reducible refine (HBK.out _).mono ?_
                  rintro e w9 ⟨A9, c9, rfl, hb9, ho9⟩
                  have hb9 := below_of_drew hb9
                  have W9 := Lib.hid (W8.out.keep hb9)
                  have ho9 := Lib.hid ho9
                  have p9 : w9.cell? ⟨w1.heap.size, 1, none⟩ = some (.slice AB bs.length cB) := W9.out.pk.cell 1
                  have p10 : (w9.alloc (.cells #[.slice A9 (ipL D4 4).length c9, .int .i64 (blockT D4 tn : Int), .bool tf, .bool ti] 67)).cell? ⟨w1.heap.size, 1, none⟩ = some (.slice AB bs.length cB) := (W9.out.pk.alloc _).cell 1
                  have hz10 := W9.out.lt
                  have hz11 := hb9.size
                  clear hb9
                  refine hK.out _ _ ?_ (fun hHeld => ?_)
                  · trivial
                  clear hK K
                  try simp only [Act.put, List.setIfInBounds_toArray, List.set_cons_zero, List.set_cons_succ]
                  refine wpAnyH_ready (rs := [5]) (by kernel_rfl) (by simp) ?_
                  refine AllReadyH.cons (o := { dst := some 109, op := Op.buildSlice 31 1 #[(0, Operand.tmp 108)], type := 31, pos := _, after := #[{ on := 4, ground := Ground.data }], guard := none }) rfl (fun K hK => ?_) AllReadyH.nil
                  go_simp
                  refine hK.out _ _ ?_ (fun hHeld => ?_)
                  · trivial
                  clear hK K
                  try simp only [Act.put, List.setIfInBounds_toArray, List.set_cons_zero, List.set_cons_succ]
                  refine wpAnyH_ready (rs := [6]) (by kernel_rfl) (by simp) ?_
                  refine AllReadyH.cons (o := { dst := some 110, op := Op.call { callee := Callee.builtin Builtin.append, args := #[Operand.tmp 105, Operand.tmp 109], argTypes := #[31, 31] }, type := 31, pos := _, after := #[{ on := 1, ground := Ground.data }, { on := 5, ground := Ground.data }, { on := 4, ground := Ground.chain }], guard := none }) rfl (fun K hK => ?_) AllReadyH.nil
                  have hbr := (own_base_le ho9.out (base' := w1.heap.size + 1) (show w1.heap.size + 1 ≤ wr.heap.size by omega)).alloc (.cells #[.slice A9 (ipL D4 4).length c9, .int .i64 (blockT D4 tn : Int), .bool tf, .bool ti] 67)
                  have W10 := Lib.hid (W9.out.keep (below_new w9 (.cells #[.slice A9 (ipL D4 4).length c9, .int .i64 (blockT D4 tn : Int), .bool tf, .bool ti] 67)))
                  refine step_append_lies _ (by rfl) (.tmp 105) (.tmp 109) 31 (by rfl) (w1.heap.size + 1) 67 j0 (.agg #[.slice none 0 0, .int .i64 0, .bool false, .bool false]) 4 40 Tryz.underlying31 HJ0.out HY0.out HY1.out HY2.out rfl (by decide) (.slice AB bs.length cB) bs.length (blocks4 bs) (by rfl) W10.out.blocks ⟨w9.heap.size, 0, none⟩ 1 1 [.slice A9 (ipL D4 4).length c9, .int .i64 (blockT D4 tn : Int), .bool tf, .bool ti] (by rfl) rfl (new_cells w9 _ _) (by intro u hu; simp at hu; rcases hu with rfl | rfl | rfl | rfl <;> rfl) (by decide) (by unfold maxLen; omega) (by omega) (by simp; omega) (w9.heap.size + 1) (by simp) ?_
                  intro g11 cap11 w11 hown11 hg11 hat11 hlt11
                  have hg11' : (w9.alloc (.cells #[.slice A9 (ipL D4 4).length c9, .int .i64 (blockT D4 tn : Int), .bool tf, .bool ti] 67)).grownBy w11 (Value.slice AB bs.length cB).ownBlock := ⟨hg11.os, hg11.tape, hg11.output, hg11.size, hg11.block⟩
                  have B11 := W10.out.pk.grown hg11' (fun e => own_other W10.out.blocks W10.out.pk (by decide) e.symm)
                  have k11 : w11.cell? ⟨w1.heap.size, 1, none⟩ = some (.slice AB bs.length cB) := B11.cell 1
                  have f11 := B11.free 1
                  have HBR := Lib.hid hbr
                  have HW11 := Lib.hid hown11
                  have HG11 := Lib.hid hg11'
                  clear hbr hown11 hg11 hg11' hat11 hlt11 B11
                  refine hK.out _ _ ?_ (fun hHeld => ?_)
                  · trivial
                  clear hK K
                  try simp only [Act.put, List.setIfInBounds_toArray, List.set_cons_zero, List.set_cons_succ]
                  refine wpAnyH_ready (rs := [7]) (by kernel_rfl) (by simp) ?_
                  refine AllReadyH.cons (o := { dst := some 111, op := Op.fieldAddr 33 (Operand.tmp 6) 1, type := 0, pos := _, after := #[{ on := 0, ground := Ground.phase }, { on := 1, ground := Ground.phase }, { on := 2, ground := Ground.phase }, { on := 3, ground := Ground.phase }, { on := 4, ground := Ground.phase }, { on := 5, ground := Ground.phase }, { on := 6, ground := Ground.phase }], guard := none }) rfl (fun K hK => ?_) AllReadyH.nil
                  go_simp
                  refine hK.out _ _ ?_ (fun hHeld => ?_)
                  · trivial
                  clear hK K
                  try simp only [Act.put, List.setIfInBounds_toArray, List.set_cons_zero, List.set_cons_succ]
                  refine wpAnyH_ready (rs := [8]) (by kernel_rfl) (by simp) ?_
                  refine AllReadyH.cons (o := { dst := none, op := Op.store 31 (Operand.tmp 111) (Operand.tmp 110), type := 0, pos := _, after := #[{ on := 7, ground := Ground.data }, { on := 6, ground := Ground.data }, { on := 6, ground := Ground.chain }, { on := 0, ground := Ground.phase }, { on := 1, ground := Ground.phase }, { on := 2, ground := Ground.phase }, { on := 3, ground := Ground.phase }, { on := 4, ground := Ground.phase }, { on := 5, ground := Ground.phase }, { on := 6, ground := Ground.phase }], guard := none }) rfl (fun K hK => ?_) AllReadyH.nil
                  go_simp
                  refine hK.out _ _ ?_ (fun hHeld => ?_)
                  · trivial
                  clear hK K
                  try simp only [Act.put, List.setIfInBounds_toArray, List.set_cons_zero, List.set_cons_succ]
                  refine wpAnyH_done (by kernel_rfl) ?_ _
                  have W12 := Lib.hid (W10.out.blk (b := ⟨A9, c9, natI (ipL D4 4), (blockT D4 tn : Int), tf, ti⟩) (by simp only [natI_length]; exact HBR.out) (by simp only [BL.cells, natI_length]; exact HW11.out) HG11.out)
                  clear k11 f11 p9 p10 p1 n0 n1 n2 n3 m0 m1 m2 hHeld
                  go_wp2_with fail
                  go_roundw
                  case rel => exact ⟨k + 1, _, _, _, by omega, by go_num, W12.out, by rw [List.map_append, HP.out, List.range_succ, List.map_append, List.map_singleton, List.map_singleton, HBD.out, HD.out]; rfl⟩
                  case measure => simp [intOf]; omega
                · skip
                  go_simp
                  with_reducible refine (HBK.out _).mono ?_
                  rintro e w9 ⟨A9, c9, rfl, hb9, ho9⟩
                  have hb9 := below_of_drew hb9
                  have W9 := Lib.hid (W8.out.keep hb9)
                  have ho9 := Lib.hid ho9
                  have p9 : w9.cell? ⟨w1.heap.size, 1, none⟩ = some (.slice AB bs.length cB) := W9.out.pk.cell 1
                  have p10 : (w9.alloc (.cells #[.slice A9 (ipL D4 4).length c9, .int .i64 (blockT D4 tn : Int), .bool tf, .bool ti] 67)).cell? ⟨w1.heap.size, 1, none⟩ = some (.slice AB bs.length cB) := (W9.out.pk.alloc _).cell 1
                  have hz10 := W9.out.lt
                  have hz11 := hb9.size
                  clear hb9
                  refine hK.out _ _ ?_ (fun hHeld => ?_)
                  · trivial
                  clear hK K
                  try simp only [Act.put, List.setIfInBounds_toArray, List.set_cons_zero, List.set_cons_succ]
                  refine wpAnyH_ready (rs := [1, 5]) (by kernel_rfl) (by simp) ?_
                  refine AllReadyH.cons (o := { dst := some 105, op := Op.load 31 (Operand.tmp 104), type := 31, pos := _, after := #[{ on := 0, ground := Ground.data }], guard := none }) rfl (fun K hK => ?_) (AllReadyH.cons (o := { dst := some 109, op := Op.buildSlice 31 1 #[(0, Operand.tmp 108)], type := 31, pos := _, after := #[{ on := 4, ground := Ground.data }], guard := none }) rfl (fun K hK => ?_) AllReadyH.nil)
                  · skip
                    go_simp
                    refine hK.out _ _ ?_ (fun hHeld => ?_)
                    · trivial
                    clear hK K
                    try simp only [Act.put, List.setIfInBounds_toArray, List.set_cons_zero, List.set_cons_succ]
                    refine wpAnyH_ready (rs := [5]) (by kernel_rfl) (by simp) ?_
                    refine AllReadyH.cons (o := { dst := some 109, op := Op.buildSlice 31 1 #[(0, Operand.tmp 108)], type := 31, pos := _, after := #[{ on := 4, ground := Ground.data }], guard := none }) rfl (fun K hK => ?_) AllReadyH.nil
                    go_simp
                    refine hK.out _ _ ?_ (fun hHeld => ?_)
                    · trivial
                    clear hK K
                    try simp only [Act.put, List.setIfInBounds_toArray, List.set_cons_zero, List.set_cons_succ]
                    refine wpAnyH_ready (rs := [6]) (by kernel_rfl) (by simp) ?_
                    refine AllReadyH.cons (o := { dst := some 110, op := Op.call { callee := Callee.builtin Builtin.append, args := #[Operand.tmp 105, Operand.tmp 109], argTypes := #[31, 31] }, type := 31, pos := _, after := #[{ on := 1, ground := Ground.data }, { on := 5, ground := Ground.data }, { on := 4, ground := Ground.chain }], guard := none }) rfl (fun K hK => ?_) AllReadyH.nil
                    have hbr := (own_base_le ho9.out (base' := w1.heap.size + 1) (show w1.heap.size + 1 ≤ wr.heap.size by omega)).alloc (.cells #[.slice A9 (ipL D4 4).length c9, .int .i64 (blockT D4 tn : Int), .bool tf, .bool ti] 67)
                    have W10 := Lib.hid (W9.out.keep (below_new w9 (.cells #[.slice A9 (ipL D4 4).length c9, .int .i64 (blockT D4 tn : Int), .bool tf, .bool ti] 67)))
                    refine step_append_lies _ (by rfl) (.tmp 105) (.tmp 109) 31 (by rfl) (w1.heap.size + 1) 67 j0 (.agg #[.slice none 0 0, .int .i64 0, .bool false, .bool false]) 4 40 Tryz.underlying31 HJ0.out HY0.out HY1.out HY2.out rfl (by decide) (.slice AB bs.length cB) bs.length (blocks4 bs) (by rfl) W10.out.blocks ⟨w9.heap.size, 0, none⟩ 1 1 [.slice A9 (ipL D4 4).length c9, .int .i64 (blockT D4 tn : Int), .bool tf, .bool ti] (by rfl) rfl (new_cells w9 _ _) (by intro u hu; simp at hu; rcases hu with rfl | rfl | rfl | rfl <;> rfl) (by decide) (by unfold maxLen; omega) (by omega) (by simp; omega) (w9.heap.size + 1) (by simp) ?_
                    intro g11 cap11 w11 hown11 hg11 hat11 hlt11
                    have hg11' : (w9.alloc (.cells #[.slice A9 (ipL D4 4).length c9, .int .i64 (blockT D4 tn : Int), .bool tf, .bool ti] 67)).grownBy w11 (Value.slice AB bs.length cB).ownBlock := ⟨hg11.os, hg11.tape, hg11.output, hg11.size, hg11.block⟩
                    have B11 := W10.out.pk.grown hg11' (fun e => own_other W10.out.blocks W10.out.pk (by decide) e.symm)
                    have k11 : w11.cell? ⟨w1.heap.size, 1, none⟩ = some (.slice AB bs.length cB) := B11.cell 1
                    have f11 := B11.free 1
                    have HBR := Lib.hid hbr
                    have HW11 := Lib.hid hown11
                    have HG11 := Lib.hid hg11'
                    clear hbr hown11 hg11 hg11' hat11 hlt11 B11
                    refine hK.out _ _ ?_ (fun hHeld => ?_)
                    · trivial
                    clear hK K
                    try simp only [Act.put, List.setIfInBounds_toArray, List.set_cons_zero, List.set_cons_succ]
                    refine wpAnyH_ready (rs := [7]) (by kernel_rfl) (by simp) ?_
                    refine AllReadyH.cons (o := { dst := some 111, op := Op.fieldAddr 33 (Operand.tmp 6) 1, type := 0, pos := _, after := #[{ on := 0, ground := Ground.phase }, { on := 1, ground := Ground.phase }, { on := 2, ground := Ground.phase }, { on := 3, ground := Ground.phase }, { on := 4, ground := Ground.phase }, { on := 5, ground := Ground.phase }, { on := 6, ground := Ground.phase }], guard := none }) rfl (fun K hK => ?_) AllReadyH.nil
                    go_simp
                    refine hK.out _ _ ?_ (fun hHeld => ?_)
                    · trivial
                    clear hK K
                    try simp only [Act.put, List.setIfInBounds_toArray, List.set_cons_zero, List.set_cons_succ]
                    refine wpAnyH_ready (rs := [8]) (by kernel_rfl) (by simp) ?_
                    refine AllReadyH.cons (o := { dst := none, op := Op.store 31 (Operand.tmp 111) (Operand.tmp 110), type := 0, pos := _, after := #[{ on := 7, ground := Ground.data }, { on := 6, ground := Ground.data }, { on := 6, ground := Ground.chain }, { on := 0, ground := Ground.phase }, { on := 1, ground := Ground.phase }, { on := 2, ground := Ground.phase }, { on := 3, ground := Ground.phase }, { on := 4, ground := Ground.phase }, { on := 5, ground := Ground.phase }, { on := 6, ground := Ground.phase }], guard := none }) rfl (fun K hK => ?_) AllReadyH.nil
                    go_simp
                    refine hK.out _ _ ?_ (fun hHeld => ?_)
                    · trivial
                    clear hK K
                    try simp only [Act.put, List.setIfInBounds_toArray, List.set_cons_zero, List.set_cons_succ]
                    refine wpAnyH_done (by kernel_rfl) ?_ _
                    have W12 := Lib.hid (W10.out.blk (b := ⟨A9, c9, natI (ipL D4 4), (blockT D4 tn : Int), tf, ti⟩) (by simp only [natI_length]; exact HBR.out) (by simp only [BL.cells, natI_length]; exact HW11.out) HG11.out)
                    clear k11 f11 p9 p10 p1 n0 n1 n2 n3 m0 m1 m2 hHeld
                    go_wp2_with fail
                    go_roundw
                    case rel => exact ⟨k + 1, _, _, _, by omega, by go_num, W12.out, by rw [List.map_append, HP.out, List.range_succ, List.map_append, List.map_singleton, List.map_singleton, HBD.out, HD.out]; rfl⟩
                    case measure => simp [intOf]; omega
                  · skip
                    go_simp
                    refine hK.out _ _ ?_ (fun hHeld => ?_)
                    · trivial
                    clear hK K
                    try simp only [Act.put, List.setIfInBounds_toArray, List.set_cons_zero, List.set_cons_succ]
                    refine wpAnyH_ready (rs := [1]) (by kernel_rfl) (by simp) ?_
                    refine AllReadyH.cons (o := { dst := some 105, op := Op.load 31 (Operand.tmp 104), type := 31, pos := _, after := #[{ on := 0, ground := Ground.data }], guard := none }) rfl (fun K hK => ?_) AllReadyH.nil
                    go_simp
                    refine hK.out _ _ ?_ (fun hHeld => ?_)
                    · trivial
                    clear hK K
                    try simp only [Act.put, List.setIfInBounds_toArray, List.set_cons_zero, List.set_cons_succ]
                    refine wpAnyH_ready (rs := [6]) (by kernel_rfl) (by simp) ?_
                    refine AllReadyH.cons (o := { dst := some 110, op := Op.call { callee := Callee.builtin Builtin.append, args := #[Operand.tmp 105, Operand.tmp 109], argTypes := #[31, 31] }, type := 31, pos := _, after := #[{ on := 1, ground := Ground.data }, { on := 5, ground := Ground.data }, { on := 4, ground := Ground.chain }], guard := none }) rfl (fun K hK => ?_) AllReadyH.nil
                    have hbr := (own_base_le ho9.out (base' := w1.heap.size + 1) (show w1.heap.size + 1 ≤ wr.heap.size by omega)).alloc (.cells #[.slice A9 (ipL D4 4).length c9, .int .i64 (blockT D4 tn : Int), .bool tf, .bool ti] 67)
                    have W10 := Lib.hid (W9.out.keep (below_new w9 (.cells #[.slice A9 (ipL D4 4).length c9, .int .i64 (blockT D4 tn : Int), .bool tf, .bool ti] 67)))
                    refine step_append_lies _ (by rfl) (.tmp 105) (.tmp 109) 31 (by rfl) (w1.heap.size + 1) 67 j0 (.agg #[.slice none 0 0, .int .i64 0, .bool false, .bool false]) 4 40 Tryz.underlying31 HJ0.out HY0.out HY1.out HY2.out rfl (by decide) (.slice AB bs.length cB) bs.length (blocks4 bs) (by rfl) W10.out.blocks ⟨w9.heap.size, 0, none⟩ 1 1 [.slice A9 (ipL D4 4).length c9, .int .i64 (blockT D4 tn : Int), .bool tf, .bool ti] (by rfl) rfl (new_cells w9 _ _) (by intro u hu; simp at hu; rcases hu with rfl | rfl | rfl | rfl <;> rfl) (by decide) (by unfold maxLen; omega) (by omega) (by simp; omega) (w9.heap.size + 1) (by simp) ?_
                    intro g11 cap11 w11 hown11 hg11 hat11 hlt11
                    have hg11' : (w9.alloc (.cells #[.slice A9 (ipL D4 4).length c9, .int .i64 (blockT D4 tn : Int), .bool tf, .bool ti] 67)).grownBy w11 (Value.slice AB bs.length cB).ownBlock := ⟨hg11.os, hg11.tape, hg11.output, hg11.size, hg11.block⟩
                    have B11 := W10.out.pk.grown hg11' (fun e => own_other W10.out.blocks W10.out.pk (by decide) e.symm)
                    have k11 : w11.cell? ⟨w1.heap.size, 1, none⟩ = some (.slice AB bs.length cB) := B11.cell 1
                    have f11 := B11.free 1
                    have HBR := Lib.hid hbr
                    have HW11 := Lib.hid hown11
                    have HG11 := Lib.hid hg11'
                    clear hbr hown11 hg11 hg11' hat11 hlt11 B11
                    refine hK.out _ _ ?_ (fun hHeld => ?_)
                    · trivial
                    clear hK K
                    try simp only [Act.put, List.setIfInBounds_toArray, List.set_cons_zero, List.set_cons_succ]
                    refine wpAnyH_ready (rs := [7]) (by kernel_rfl) (by simp) ?_
                    refine AllReadyH.cons (o := { dst := some 111, op := Op.fieldAddr 33 (Operand.tmp 6) 1, type := 0, pos := _, after := #[{ on := 0, ground := Ground.phase }, { on := 1, ground := Ground.phase }, { on := 2, ground := Ground.phase }, { on := 3, ground := Ground.phase }, { on := 4, ground := Ground.phase }, { on := 5, ground := Ground.phase }, { on := 6, ground := Ground.phase }], guard := none }) rfl (fun K hK => ?_) AllReadyH.nil
                    go_simp
                    refine hK.out _ _ ?_ (fun hHeld => ?_)
                    · trivial
                    clear hK K
                    try simp only [Act.put, List.setIfInBounds_toArray, List.set_cons_zero, List.set_cons_succ]
                    refine wpAnyH_ready (rs := [8]) (by kernel_rfl) (by simp) ?_
                    refine AllReadyH.cons (o := { dst := none, op := Op.store 31 (Operand.tmp 111) (Operand.tmp 110), type := 0, pos := _, after := #[{ on := 7, ground := Ground.data }, { on := 6, ground := Ground.data }, { on := 6, ground := Ground.chain }, { on := 0, ground := Ground.phase }, { on := 1, ground := Ground.phase }, { on := 2, ground := Ground.phase }, { on := 3, ground := Ground.phase }, { on := 4, ground := Ground.phase }, { on := 5, ground := Ground.phase }, { on := 6, ground := Ground.phase }], guard := none }) rfl (fun K hK => ?_) AllReadyH.nil
                    go_simp
                    refine hK.out _ _ ?_ (fun hHeld => ?_)
                    · trivial
                    clear hK K
                    try simp only [Act.put, List.setIfInBounds_toArray, List.set_cons_zero, List.set_cons_succ]
                    refine wpAnyH_done (by kernel_rfl) ?_ _
                    have W12 := Lib.hid (W10.out.blk (b := ⟨A9, c9, natI (ipL D4 4), (blockT D4 tn : Int), tf, ti⟩) (by simp only [natI_length]; exact HBR.out) (by simp only [BL.cells, natI_length]; exact HW11.out) HG11.out)
                    clear k11 f11 p9 p10 p1 n0 n1 n2 n3 m0 m1 m2 hHeld
                    go_wp2_with fail
                    go_roundw
                    case rel => exact ⟨k + 1, _, _, _, by omega, by go_num, W12.out, by rw [List.map_append, HP.out, List.range_succ, List.map_append, List.map_singleton, List.map_singleton, HBD.out, HD.out]; rfl⟩
                    case measure => simp [intOf]; omega
          obtain ⟨hn1, hn2, hn3⟩ := HINN.out j hj4
          have hdj := HDJ.out j hj4
          unfold inN at hn2 hn3 hdj
          have hdl := HDL.out
          obtain ⟨n, hn⟩ := Int.eq_ofNat_of_zero_le hn2
          have hnl : n < (dL C).length := by omega
          have R8 := Lib.hid (R2.out.later W8.out.below)
          have hdv : (dL C).getD n 0 = (insD C k).getD j 0 := by rw [hdj]; unfold dv; rw [hn]; rfl
          have HN := Lib.hid hn
          have HN1 := Lib.hid hn1
          have HDV := Lib.hid hdv
          clear hn hn1 hn2 hn3 hdj hdl hdv
          go_wp2_with fail
          refine (inn_any _ _ _ _ _ _ _).mono ?_
          rintro e w9 ⟨rfl, hb9⟩
          rw [HN1.out, HN.out]
          have W9 := Lib.hid (W8.out.keep hb9)
          have M9 := Lib.hid (M8.out.keep hb9)
          have N9 := Lib.hid (N8.out.keep hb9)
          obtain ⟨a1, ha1, -, cd⟩ := (R8.out.later hb9).int hnl
          subst ha1
          rw [HDV.out] at cd
          have n9 := N9.out.cell j
          rw [List.getElem?_toArray, show (ints (mixD (insD C k) j))[j]? = some (.int .i64 0) by unfold ints; rw [List.getElem?_map, mixD_get _ hj4]; rfl] at n9
          have f9 := N9.out.free j
          have hmx := mixD_next (insD C k) hj4
          generalize (insD C k).getD j 0 = d at cd hmx
          have HMX := Lib.hid hmx
          clear hb9 hmx y0 y1 y2
          go_wp2_with fail
          go_roundw
          case rel => exact ⟨j + 1, by omega, by go_num, W9.out.apart N9.out hz6 (by decide) (by decide) _ _, M9.out.apart (show wo.heap.size ≠ w6.heap.size by omega) _, by
            have := N9.out.put j (.int .i64 d)
            rw [List.setIfInBounds_toArray, show (ints (mixD (insD C k) j)).set j (.int .i64 d) = ints (mixD (insD C k) (j + 1)) by rw [← HMX.out]; simp [ints, List.map_set]] at this
            exact this⟩
          case measure => simp [intOf]; omega
    obtain ⟨a, ha, hab, cx⟩ := (((HIN.out.later B2.out).later W1.out.below).outs).int hlt
    rw [HOU.out] at ha
    subst ha
    have hmem : C.outs.getD k 0 ∈ C.outs := by rw [List.getD_eq_getElem?_getD, List.getElem?_eq_getElem hlt]; exact List.getElem_mem hlt
    obtain ⟨hn1, hn2, hn3⟩ := out_pad HOK.out hmem
    have hol : (outsD C).length = C.outs.length := by simp [outsD]
    have hog : (outsD C)[k]'(by omega) = dv C (padN C (C.outs.getD k 0)) := by simp [outsD, List.getD_eq_getElem?_getD, List.getElem?_eq_getElem hlt]
    have htk : (outsD C).take (k + 1) = (outsD C).take k ++ [dv C (padN C (C.outs.getD k 0))] := by rw [List.take_succ_eq_append_getElem (by omega), hog]
    have htl : ((outsD C).take k).length = k := by rw [List.length_take]; omega
    have hmo : dv C (padN C (C.outs.getD k 0)) ∈ outsD C := by rw [← hog]; exact List.getElem_mem _
    have HTK := Lib.hid htk
    have HTL := Lib.hid htl
    have HMO := Lib.hid hmo
    have hdl := HDL.out
    unfold padN at hn2 hn3 HTK HMO
    generalize C.outs.getD k 0 = p at cx hn1 hn2 hn3 HTK HMO
    obtain ⟨n, hn⟩ := Int.eq_ofNat_of_zero_le hn2
    have hnl : n < (dL C).length := by omega
    obtain ⟨a1, ha1, hab1, cd⟩ := R3.out.int hnl
    subst ha1
    have hdv : (dL C).getD n 0 = dv C (nodeN C.W C.H C.T 2 p 0 0) := by unfold dv; rw [hn]; rfl
    rw [hdv] at cd
    obtain ⟨hd1, hd2⟩ := dv_bd HF.out (nodeN C.W C.H C.T 2 p 0 0)
    generalize dv C (nodeN C.W C.H C.T 2 p 0 0) = d at cd HTK HMO hd1 hd2
    have HN := Lib.hid hn
    have HN1 := Lib.hid hn1
    clear hn hn1 hn2 hn3 hol hog htk htl hmo hdl hmem hdv
    go_wp2_with fail
    refine (pad_any _ _ _ _ _).mono ?_
    rintro e w4 ⟨rfl, hb4⟩
    rw [HN1.out, HN.out]
    have W4 := Lib.hid (W1.out.keep hb4)
    have R4 := Lib.hid (R3.out.later hb4)
    have cd4 := (hb4.cell (p := a1.add n) (by rw [add_block]; exact hab1)).trans cd
    have hz5 := W4.out.lt
    have B4 := Lib.hid (below_then B2.out W4.out.below)
    have Z4 := Lib.hid (Z2.out.keep W4.out.below)
    generalize (outsD C).take k = us at HTK HTL HA W4 W1 p0
    clear hb4 cd t0 t1 t2 p0 q0 T3 cx R3 hab hab1
    have p0 : w4.cell? ⟨w1.heap.size, 2, none⟩ = some (.slice AU us.length cU) := W4.out.pk.cell 2
    by_cases hneg : d < 0
    · have z0 := Z4.out.cell 0
      have z1 := Z4.out.cell 1
      have z2 := Z4.out.cell 2
      have f0 := Z4.out.free 0
      have f1 := Z4.out.free 1
      have f2 := Z4.out.free 2
      have hz6 := Z4.out.lt
      have HR := Lib.hid (show ReadR C zeroPK 121 from by unfold ReadR; rw [HE.out, if_neg (by simp), if_pos (List.any_eq_true.2 ⟨d, HMO.out, decide_eq_true hneg⟩)])
      go_wp2_with fail
      exact read_err Tryz.results9 C w w4 _ 121 B4.out Z4.out HR.out rfl rfl
    go_wp2_with fail
    refine wp_region_held_drew (S := (fun _ => True)) (by kernel_rfl) ?_ (fun hHeld => ?_)
    · trivial
    refine wpAnyH_take (i := 0) (oi := { dst := some 57, op := Op.fieldAddr 33 (Operand.tmp 6) 2, type := 0, pos := _, after := #[], guard := none }) (v := ?_) rfl (by kernel_rfl) (by kernel_rfl) (by kernel_rfl) (fun _ _ _ h => h) (Or.inl ⟨by rfl, ?_⟩) (by assumption) ?_
    rotate_left
    · intro w hSw; (try dsimp only at hSw); go_simp; (try with_reducible rfl)
    try simp only [Act.put, List.setIfInBounds_toArray, List.set_cons_zero, List.set_cons_succ]
    refine wpAnyH_take (i := 2) (oi := { dst := some 59, op := Op.move (Operand.tmp 4), type := 26, pos := _, after := #[], guard := none }) (v := ?_) rfl (by kernel_rfl) (by kernel_rfl) (by kernel_rfl) (fun _ _ _ h => h) (Or.inl ⟨by rfl, ?_⟩) (by assumption) ?_
    rotate_left
    · intro w hSw; (try dsimp only at hSw); go_simp; (try with_reducible rfl)
    try simp only [Act.put, List.setIfInBounds_toArray, List.set_cons_zero, List.set_cons_succ]
    refine wpAnyH_take (i := 3) (oi := { dst := some 60, op := Op.move (Operand.tmp 9), type := 3, pos := _, after := #[], guard := none }) (v := ?_) rfl (by kernel_rfl) (by kernel_rfl) (by kernel_rfl) (fun _ _ _ h => h) (Or.inl ⟨by rfl, ?_⟩) (by assumption) ?_
    rotate_left
    · intro w hSw; (try dsimp only at hSw); go_simp; (try with_reducible rfl)
    try simp only [Act.put, List.setIfInBounds_toArray, List.set_cons_zero, List.set_cons_succ]
    refine wpAnyH_take (i := 4) (oi := { dst := some 61, op := Op.indexAddr 26 (Operand.tmp 59) (Operand.tmp 60), type := 0, pos := _, after := #[{ on := 2, ground := Ground.data }, { on := 3, ground := Ground.data }], guard := none }) (v := ?_) rfl (by kernel_rfl) (by kernel_rfl) (by kernel_rfl) (fun _ _ _ h => h) (Or.inl ⟨by rfl, ?_⟩) (by assumption) ?_
    rotate_left
    · intro w hSw; (try dsimp only at hSw); go_simp; (try with_reducible rfl)
    try simp only [Act.put, List.setIfInBounds_toArray, List.set_cons_zero, List.set_cons_succ]
    refine wpAnyH_ready (rs := [1, 5]) (by kernel_rfl) (by simp) ?_
    refine AllReadyH.cons (o := { dst := some 58, op := Op.load 26 (Operand.tmp 57), type := 26, pos := _, after := #[{ on := 0, ground := Ground.data }], guard := none }) rfl (fun K hK => ?_) (AllReadyH.cons (o := { dst := some 62, op := Op.load 3 (Operand.tmp 61), type := 3, pos := _, after := #[{ on := 4, ground := Ground.data }], guard := none }) rfl (fun K hK => ?_) AllReadyH.nil)
    · skip
      go_simp
      refine hK.out _ _ ?_ (fun hHeld => ?_)
      · trivial
      clear hK K
      try simp only [Act.put, List.setIfInBounds_toArray, List.set_cons_zero, List.set_cons_succ]
      refine wpAnyH_ready (rs := [5]) (by kernel_rfl) (by simp) ?_
      refine AllReadyH.cons (o := { dst := some 62, op := Op.load 3 (Operand.tmp 61), type := 3, pos := _, after := #[{ on := 4, ground := Ground.data }], guard := none }) rfl (fun K hK => ?_) AllReadyH.nil
      go_simp
      refine hK.out _ _ ?_ (fun hHeld => ?_)
      · trivial
      clear hK K
      try simp only [Act.put, List.setIfInBounds_toArray, List.set_cons_zero, List.set_cons_succ]
      refine wpAnyH_ready (rs := [6]) (by kernel_rfl) (by simp) ?_
      refine AllReadyH.cons (o := { dst := some 63, op := Op.buildSlice 26 1 #[(0, Operand.tmp 62)], type := 26, pos := _, after := #[{ on := 5, ground := Ground.data }], guard := none }) rfl (fun K hK => ?_) AllReadyH.nil
      go_simp
      refine hK.out _ _ ?_ (fun hHeld => ?_)
      · trivial
      clear hK K
      try simp only [Act.put, List.setIfInBounds_toArray, List.set_cons_zero, List.set_cons_succ]
      refine wpAnyH_ready (rs := [7]) (by kernel_rfl) (by simp) ?_
      refine AllReadyH.cons (o := { dst := some 64, op := Op.call { callee := Callee.builtin Builtin.append, args := #[Operand.tmp 58, Operand.tmp 63], argTypes := #[26, 26] }, type := 26, pos := _, after := #[{ on := 1, ground := Ground.data }, { on := 6, ground := Ground.data }], guard := none }) rfl (fun K hK => ?_) AllReadyH.nil
      have T8 := W4.out.outs.alloc (.cells #[.int .i64 d] 3)
      refine step_append_lies _ (by rfl) (.tmp 58) (.tmp 63) 26 (by rfl) (w1.heap.size + 1) 3 i0 (.int .i64 0) 1 8 Tryz.underlying26 HI0.out HZ0.out HZ1.out HZ2.out rfl (by decide) (.slice AU us.length cU) us.length (ints us) (by rfl) T8 ⟨w4.heap.size, 0, none⟩ 1 1 [.int .i64 d] (by rfl) rfl (new_cells w4 _ _) (by intro u hu; simp at hu; rcases hu with rfl; rfl) (by decide) (by unfold maxLen; have := HTL.out; omega) (by have := HTL.out; omega) (by simp; omega) (w4.heap.size + 1) (by simp) ?_
      intro g9 cap9 w9 hown9 hg9 hat9 hlt9
      have hg9' := (World.grownBy_alloc w4 (.cells #[.int .i64 d] 3) (Value.slice AU us.length cU).ownBlock).trans (show (w4.alloc (.cells #[.int .i64 d] 3)).grownBy w9 (Value.slice AU us.length cU).ownBlock from ⟨hg9.os, hg9.tape, hg9.output, hg9.size, hg9.block⟩)
      have B9 := W4.out.pk.grown hg9' (fun e => own_other W4.out.outs W4.out.pk (by decide) e.symm)
      have k9 : w9.cell? ⟨w1.heap.size, 2, none⟩ = some (.slice AU us.length cU) := B9.cell 2
      have f9 := B9.free 2
      refine hK.out _ _ ?_ (fun hHeld => ?_)
      · trivial
      clear hK K
      try simp only [Act.put, List.setIfInBounds_toArray, List.set_cons_zero, List.set_cons_succ]
      refine wpAnyH_ready (rs := [8]) (by kernel_rfl) (by simp) ?_
      refine AllReadyH.cons (o := { dst := some 65, op := Op.fieldAddr 33 (Operand.tmp 6) 2, type := 0, pos := _, after := #[{ on := 0, ground := Ground.phase }, { on := 1, ground := Ground.phase }, { on := 2, ground := Ground.phase }, { on := 3, ground := Ground.phase }, { on := 4, ground := Ground.phase }, { on := 5, ground := Ground.phase }, { on := 6, ground := Ground.phase }, { on := 7, ground := Ground.phase }], guard := none }) rfl (fun K hK => ?_) AllReadyH.nil
      go_simp
      refine hK.out _ _ ?_ (fun hHeld => ?_)
      · trivial
      clear hK K
      try simp only [Act.put, List.setIfInBounds_toArray, List.set_cons_zero, List.set_cons_succ]
      refine wpAnyH_ready (rs := [9]) (by kernel_rfl) (by simp) ?_
      refine AllReadyH.cons (o := { dst := none, op := Op.store 26 (Operand.tmp 65) (Operand.tmp 64), type := 0, pos := _, after := #[{ on := 8, ground := Ground.data }, { on := 7, ground := Ground.data }, { on := 7, ground := Ground.chain }, { on := 0, ground := Ground.phase }, { on := 1, ground := Ground.phase }, { on := 2, ground := Ground.phase }, { on := 3, ground := Ground.phase }, { on := 4, ground := Ground.phase }, { on := 5, ground := Ground.phase }, { on := 6, ground := Ground.phase }, { on := 7, ground := Ground.phase }], guard := none }) rfl (fun K hK => ?_) AllReadyH.nil
      go_simp
      refine hK.out _ _ ?_ (fun hHeld => ?_)
      · trivial
      clear hK K
      try simp only [Act.put, List.setIfInBounds_toArray, List.set_cons_zero, List.set_cons_succ]
      refine wpAnyH_done (by kernel_rfl) ?_ _
      have W9 := Lib.hid (W4.out.out hown9 hg9')
      clear hown9 hg9' hg9 hat9 hlt9 B9 k9 f9 hHeld
      go_wp2_with fail
      go_roundw
      case rel => exact ⟨k + 1, _, _, by omega, by go_num, by rw [HTK.out]; exact W9.out, by rw [HTK.out, List.any_append, HA.out]; simp [hneg]⟩
      case measure => simp [intOf]; omega
    · skip
      go_simp
      refine hK.out _ _ ?_ (fun hHeld => ?_)
      · trivial
      clear hK K
      try simp only [Act.put, List.setIfInBounds_toArray, List.set_cons_zero, List.set_cons_succ]
      refine wpAnyH_ready (rs := [1, 6]) (by kernel_rfl) (by simp) ?_
      refine AllReadyH.cons (o := { dst := some 58, op := Op.load 26 (Operand.tmp 57), type := 26, pos := _, after := #[{ on := 0, ground := Ground.data }], guard := none }) rfl (fun K hK => ?_) (AllReadyH.cons (o := { dst := some 63, op := Op.buildSlice 26 1 #[(0, Operand.tmp 62)], type := 26, pos := _, after := #[{ on := 5, ground := Ground.data }], guard := none }) rfl (fun K hK => ?_) AllReadyH.nil)
      · skip
        go_simp
        refine hK.out _ _ ?_ (fun hHeld => ?_)
        · trivial
        clear hK K
        try simp only [Act.put, List.setIfInBounds_toArray, List.set_cons_zero, List.set_cons_succ]
        refine wpAnyH_ready (rs := [6]) (by kernel_rfl) (by simp) ?_
        refine AllReadyH.cons (o := { dst := some 63, op := Op.buildSlice 26 1 #[(0, Operand.tmp 62)], type := 26, pos := _, after := #[{ on := 5, ground := Ground.data }], guard := none }) rfl (fun K hK => ?_) AllReadyH.nil
        go_simp
        refine hK.out _ _ ?_ (fun hHeld => ?_)
        · trivial
        clear hK K
        try simp only [Act.put, List.setIfInBounds_toArray, List.set_cons_zero, List.set_cons_succ]
        refine wpAnyH_ready (rs := [7]) (by kernel_rfl) (by simp) ?_
        refine AllReadyH.cons (o := { dst := some 64, op := Op.call { callee := Callee.builtin Builtin.append, args := #[Operand.tmp 58, Operand.tmp 63], argTypes := #[26, 26] }, type := 26, pos := _, after := #[{ on := 1, ground := Ground.data }, { on := 6, ground := Ground.data }], guard := none }) rfl (fun K hK => ?_) AllReadyH.nil
        have T8 := W4.out.outs.alloc (.cells #[.int .i64 d] 3)
        refine step_append_lies _ (by rfl) (.tmp 58) (.tmp 63) 26 (by rfl) (w1.heap.size + 1) 3 i0 (.int .i64 0) 1 8 Tryz.underlying26 HI0.out HZ0.out HZ1.out HZ2.out rfl (by decide) (.slice AU us.length cU) us.length (ints us) (by rfl) T8 ⟨w4.heap.size, 0, none⟩ 1 1 [.int .i64 d] (by rfl) rfl (new_cells w4 _ _) (by intro u hu; simp at hu; rcases hu with rfl; rfl) (by decide) (by unfold maxLen; have := HTL.out; omega) (by have := HTL.out; omega) (by simp; omega) (w4.heap.size + 1) (by simp) ?_
        intro g9 cap9 w9 hown9 hg9 hat9 hlt9
        have hg9' := (World.grownBy_alloc w4 (.cells #[.int .i64 d] 3) (Value.slice AU us.length cU).ownBlock).trans (show (w4.alloc (.cells #[.int .i64 d] 3)).grownBy w9 (Value.slice AU us.length cU).ownBlock from ⟨hg9.os, hg9.tape, hg9.output, hg9.size, hg9.block⟩)
        have B9 := W4.out.pk.grown hg9' (fun e => own_other W4.out.outs W4.out.pk (by decide) e.symm)
        have k9 : w9.cell? ⟨w1.heap.size, 2, none⟩ = some (.slice AU us.length cU) := B9.cell 2
        have f9 := B9.free 2
        refine hK.out _ _ ?_ (fun hHeld => ?_)
        · trivial
        clear hK K
        try simp only [Act.put, List.setIfInBounds_toArray, List.set_cons_zero, List.set_cons_succ]
        refine wpAnyH_ready (rs := [8]) (by kernel_rfl) (by simp) ?_
        refine AllReadyH.cons (o := { dst := some 65, op := Op.fieldAddr 33 (Operand.tmp 6) 2, type := 0, pos := _, after := #[{ on := 0, ground := Ground.phase }, { on := 1, ground := Ground.phase }, { on := 2, ground := Ground.phase }, { on := 3, ground := Ground.phase }, { on := 4, ground := Ground.phase }, { on := 5, ground := Ground.phase }, { on := 6, ground := Ground.phase }, { on := 7, ground := Ground.phase }], guard := none }) rfl (fun K hK => ?_) AllReadyH.nil
        go_simp
        refine hK.out _ _ ?_ (fun hHeld => ?_)
        · trivial
        clear hK K
        try simp only [Act.put, List.setIfInBounds_toArray, List.set_cons_zero, List.set_cons_succ]
        refine wpAnyH_ready (rs := [9]) (by kernel_rfl) (by simp) ?_
        refine AllReadyH.cons (o := { dst := none, op := Op.store 26 (Operand.tmp 65) (Operand.tmp 64), type := 0, pos := _, after := #[{ on := 8, ground := Ground.data }, { on := 7, ground := Ground.data }, { on := 7, ground := Ground.chain }, { on := 0, ground := Ground.phase }, { on := 1, ground := Ground.phase }, { on := 2, ground := Ground.phase }, { on := 3, ground := Ground.phase }, { on := 4, ground := Ground.phase }, { on := 5, ground := Ground.phase }, { on := 6, ground := Ground.phase }, { on := 7, ground := Ground.phase }], guard := none }) rfl (fun K hK => ?_) AllReadyH.nil
        go_simp
        refine hK.out _ _ ?_ (fun hHeld => ?_)
        · trivial
        clear hK K
        try simp only [Act.put, List.setIfInBounds_toArray, List.set_cons_zero, List.set_cons_succ]
        refine wpAnyH_done (by kernel_rfl) ?_ _
        have W9 := Lib.hid (W4.out.out hown9 hg9')
        clear hown9 hg9' hg9 hat9 hlt9 B9 k9 f9 hHeld
        go_wp2_with fail
        go_roundw
        case rel => exact ⟨k + 1, _, _, by omega, by go_num, by rw [HTK.out]; exact W9.out, by rw [HTK.out, List.any_append, HA.out]; simp [hneg]⟩
        case measure => simp [intOf]; omega
      · skip
        go_simp
        refine hK.out _ _ ?_ (fun hHeld => ?_)
        · trivial
        clear hK K
        try simp only [Act.put, List.setIfInBounds_toArray, List.set_cons_zero, List.set_cons_succ]
        refine wpAnyH_ready (rs := [1]) (by kernel_rfl) (by simp) ?_
        refine AllReadyH.cons (o := { dst := some 58, op := Op.load 26 (Operand.tmp 57), type := 26, pos := _, after := #[{ on := 0, ground := Ground.data }], guard := none }) rfl (fun K hK => ?_) AllReadyH.nil
        go_simp
        refine hK.out _ _ ?_ (fun hHeld => ?_)
        · trivial
        clear hK K
        try simp only [Act.put, List.setIfInBounds_toArray, List.set_cons_zero, List.set_cons_succ]
        refine wpAnyH_ready (rs := [7]) (by kernel_rfl) (by simp) ?_
        refine AllReadyH.cons (o := { dst := some 64, op := Op.call { callee := Callee.builtin Builtin.append, args := #[Operand.tmp 58, Operand.tmp 63], argTypes := #[26, 26] }, type := 26, pos := _, after := #[{ on := 1, ground := Ground.data }, { on := 6, ground := Ground.data }], guard := none }) rfl (fun K hK => ?_) AllReadyH.nil
        have T8 := W4.out.outs.alloc (.cells #[.int .i64 d] 3)
        refine step_append_lies _ (by rfl) (.tmp 58) (.tmp 63) 26 (by rfl) (w1.heap.size + 1) 3 i0 (.int .i64 0) 1 8 Tryz.underlying26 HI0.out HZ0.out HZ1.out HZ2.out rfl (by decide) (.slice AU us.length cU) us.length (ints us) (by rfl) T8 ⟨w4.heap.size, 0, none⟩ 1 1 [.int .i64 d] (by rfl) rfl (new_cells w4 _ _) (by intro u hu; simp at hu; rcases hu with rfl; rfl) (by decide) (by unfold maxLen; have := HTL.out; omega) (by have := HTL.out; omega) (by simp; omega) (w4.heap.size + 1) (by simp) ?_
        intro g9 cap9 w9 hown9 hg9 hat9 hlt9
        have hg9' := (World.grownBy_alloc w4 (.cells #[.int .i64 d] 3) (Value.slice AU us.length cU).ownBlock).trans (show (w4.alloc (.cells #[.int .i64 d] 3)).grownBy w9 (Value.slice AU us.length cU).ownBlock from ⟨hg9.os, hg9.tape, hg9.output, hg9.size, hg9.block⟩)
        have B9 := W4.out.pk.grown hg9' (fun e => own_other W4.out.outs W4.out.pk (by decide) e.symm)
        have k9 : w9.cell? ⟨w1.heap.size, 2, none⟩ = some (.slice AU us.length cU) := B9.cell 2
        have f9 := B9.free 2
        refine hK.out _ _ ?_ (fun hHeld => ?_)
        · trivial
        clear hK K
        try simp only [Act.put, List.setIfInBounds_toArray, List.set_cons_zero, List.set_cons_succ]
        refine wpAnyH_ready (rs := [8]) (by kernel_rfl) (by simp) ?_
        refine AllReadyH.cons (o := { dst := some 65, op := Op.fieldAddr 33 (Operand.tmp 6) 2, type := 0, pos := _, after := #[{ on := 0, ground := Ground.phase }, { on := 1, ground := Ground.phase }, { on := 2, ground := Ground.phase }, { on := 3, ground := Ground.phase }, { on := 4, ground := Ground.phase }, { on := 5, ground := Ground.phase }, { on := 6, ground := Ground.phase }, { on := 7, ground := Ground.phase }], guard := none }) rfl (fun K hK => ?_) AllReadyH.nil
        go_simp
        refine hK.out _ _ ?_ (fun hHeld => ?_)
        · trivial
        clear hK K
        try simp only [Act.put, List.setIfInBounds_toArray, List.set_cons_zero, List.set_cons_succ]
        refine wpAnyH_ready (rs := [9]) (by kernel_rfl) (by simp) ?_
        refine AllReadyH.cons (o := { dst := none, op := Op.store 26 (Operand.tmp 65) (Operand.tmp 64), type := 0, pos := _, after := #[{ on := 8, ground := Ground.data }, { on := 7, ground := Ground.data }, { on := 7, ground := Ground.chain }, { on := 0, ground := Ground.phase }, { on := 1, ground := Ground.phase }, { on := 2, ground := Ground.phase }, { on := 3, ground := Ground.phase }, { on := 4, ground := Ground.phase }, { on := 5, ground := Ground.phase }, { on := 6, ground := Ground.phase }, { on := 7, ground := Ground.phase }], guard := none }) rfl (fun K hK => ?_) AllReadyH.nil
        go_simp
        refine hK.out _ _ ?_ (fun hHeld => ?_)
        · trivial
        clear hK K
        try simp only [Act.put, List.setIfInBounds_toArray, List.set_cons_zero, List.set_cons_succ]
        refine wpAnyH_done (by kernel_rfl) ?_ _
        have W9 := Lib.hid (W4.out.out hown9 hg9')
        clear hown9 hg9' hg9 hat9 hlt9 B9 k9 f9 hHeld
        go_wp2_with fail
        go_roundw
        case rel => exact ⟨k + 1, _, _, by omega, by go_num, by rw [HTK.out]; exact W9.out, by rw [HTK.out, List.any_append, HA.out]; simp [hneg]⟩
        case measure => simp [intOf]; omega

theorem read_any (C : Cfg) (w : World) (hin : C.In w) (hf : C.few) : READ C w (ReadOut C w) := by
  by_cases h : dE C = 0
  · exact read_yes C w hin hf h
  · exact read_no C w hin hf h

end Go.Proofs.YtoloaecbfglaeaaGreat
