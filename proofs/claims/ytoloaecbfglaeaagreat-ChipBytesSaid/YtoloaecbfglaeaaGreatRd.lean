/- What filigree/chip.Read tells, plainly; how it lies in memory. -/
import Derived.Test.YtoloaecbfglaeaaGreatPchk
import Derived.Test.YtoloaecbfglaeaaGreatBlkW
import Derived.Test.YtoloaecbfglaeaaGreatPair
import Derived.Deep.RegionHeld3
import Derived.BigRegion
namespace Go.Proofs.YtoloaecbfglaeaaGreat
open Go.RowKit Topo
set_option linter.unusedVariables false
set_option linter.unusedSimpArgs false

/-- who drives a node -/
noncomputable def dv (C : Cfg) (n : Int) : Int := (dL C).getD n.toNat 0
def inN (C : Cfg) (t k : Nat) : Int := nodeN C.W C.H C.T 1 ((t : Int) % C.W) ((t : Int) / C.W) (k : Int)
/-- the four wires of a tile -/
noncomputable def insD (C : Cfg) (t : Nat) : List Int := [dv C (inN C t 0), dv C (inN C t 1), dv C (inN C t 2), dv C (inN C t 3)]
noncomputable def outsD (C : Cfg) : List Int := C.outs.map fun p => dv C (padN C p)
noncomputable def blkD (C : Cfg) (t : Nat) : List Int × Int × Bool × Bool := (natI (ipL (insD C t) 4), (blockT (insD C t) (C.tiles[t]!).1.toNat : Int), (C.tiles[t]!).2.1, (C.tiles[t]!).2.2)
noncomputable def packD (C : Cfg) : Int × List (List Int × Int × Bool × Bool) × List Int := ((C.ins.length : Int), (List.range C.tiles.length).map (blkD C), outsD C)
/-- what Read tells of an error, and of blocks -/
def ReadR (C : Cfg) (P : PK) (x : Int) : Prop :=
  if dE C ≠ 0 then x = dE C else if (outsD C).any (fun o => decide (o < 0)) = true then x = 121 else ∃ Q : PK, Q.plain = packD C ∧ ChkR Q x ∧ (x = 0 → P.plain = packD C)
def ReadOut (C : Cfg) (w : World) (e : Ending) (w' : World) : Prop :=
  ∃ (P : PK) (x : Int), e = .returned (.tuple #[.agg #[.int .i64 P.I, .slice P.AB P.bs.length P.cB, .slice P.AO P.outs.length P.cO], .int .i64 x]) ∧ Below w.heap.size w w' ∧ P.In w' ∧ P.fit ∧ ReadR C P x ∧ (x ≠ 0 → P = ⟨0, none, 0, [], none, 0, []⟩)
def READ (C : Cfg) (w : World) (R : Ending → World → Prop) : Prop :=
  Calls Tryz.prog 9 #[.agg #[.int .i64 C.W, .int .i64 C.H, .int .i64 C.T, .slice C.AT C.tiles.length C.cT, .slice C.AO C.on.length C.cO, .slice C.AI C.ins.length C.cI, .slice C.AU C.outs.length C.cU]] w R
def zeroPK : PK := ⟨0, none, 0, [], none, 0, []⟩
theorem zero_in (w : World) : zeroPK.In w := ⟨Rd.empty, fun b hb => (nomatch hb), Rd.empty⟩
theorem zero_fit : zeroPK.fit := ⟨⟨by decide, by decide⟩, by decide, fun b hb => (nomatch hb), fun b hb => (nomatch hb), by decide⟩
theorem results_pack {fn : Func} (h : fn.results = #[.cell 2 33, .tmp 3]) (tmps : Array Value) (w : World) (g : Nat) (cs : Array Value) (hs : cs.size = 3) (hp : tmps.getD 2 undef = .pointer (some ⟨g, 0, none⟩)) (hg : Blk w g 33 cs) :
    (results fn tmps).run Tryz.prog w = .ok (.tuple #[.agg cs, tmps.getD 3 undef]) w := by
  have hp' : tmps[2]?.getD undef = .pointer (some ⟨g, 0, none⟩) := by simpa using hp
  have hi : (Tryz.prog.info? 33).map (·.size) = some cs.size := by rw [hs]; kernel_rfl
  simp [results, h, hp', asAddr, run_loadVar_row w g 33 33 cs (0, 0) _ hg Tryz.underlying33 rfl hi]
theorem set3 {w : World} {g : Nat} {t : TypeId} {a b c : Value} (h : Blk w g t #[a, b, c]) (x y z : Value) : Blk (((w.setCell ⟨g, 0, none⟩ x).setCell ⟨g, 1, none⟩ y).setCell ⟨g, 2, none⟩ z) g t #[x, y, z] := by
  have := ((h.put 0 x).put 1 y).put 2 z
  simpa using this
/-- an error told -/
theorem read_err {fn : Func} (hres : fn.results = #[.cell 2 33, .tmp 3]) (C : Cfg) (w wx : World) (tmps : Array Value) (x : Int) {a b c : Value} (hB : Below w.heap.size w wx) (hZ : Blk wx (w.heap.size + 1) 33 #[a, b, c]) (hx : ReadR C zeroPK x)
    (h2 : tmps.getD 2 undef = .pointer (some ⟨w.heap.size + 1, 0, none⟩)) (h3 : tmps.getD 3 undef = .int .i64 x) :
    bodyPost Tryz.prog fn (ReadOut C w) .ret { tmps := tmps, defers := [] } (((wx.setCell ⟨w.heap.size + 1, 0, none⟩ (.int .i64 0)).setCell ⟨w.heap.size + 1, 1, none⟩ (.slice none 0 0)).setCell ⟨w.heap.size + 1, 2, none⟩ (.slice none 0 0)) := by
  have hz := set3 hZ (.int .i64 0) (.slice none 0 0) (.slice none 0 0)
  have hr := results_pack hres tmps _ _ _ rfl h2 hz
  rw [h3] at hr
  have hb : ∀ {W : World} (hB : Below w.heap.size w W) (j : Nat) (v : Value), Below w.heap.size w (W.setCell ⟨w.heap.size + 1, j, none⟩ v) := fun hB j v => hB.setCell (p := ⟨w.heap.size + 1, j, none⟩) (show w.heap.size ≤ w.heap.size + 1 by omega) v
  exact bodyPost_ret hr rfl ⟨zeroPK, x, rfl, hb (hb (hb hB 0 _) 1 _) 2 _, zero_in _, zero_fit, hx, fun _ => rfl⟩

theorem node_bd {W H T : Int} (h : okA W H T) {k : Nat} {x y t : Int} (hk : k < 5) (hg : inG W H T k x y t) : nodeE W H T k x y t = 0 ∧ 0 ≤ nodeN W H T k x y t ∧ nodeN W H T k x y t < nodesI W H T := by
  have e : nodeN W H T k x y t = nodeAt W H T k x y t := by unfold nodeN; rw [if_pos ⟨h, hg⟩]
  obtain ⟨a1, -⟩ := nodeAt_what h hk hg
  rw [e]
  exact ⟨by unfold nodeE; rw [if_pos ⟨h, hg⟩], a1.2⟩
theorem out_pad {C : Cfg} (h : C.ok) {p : Int} (hp : p ∈ C.outs) : nodeE C.W C.H C.T 2 p 0 0 = 0 ∧ 0 ≤ padN C p ∧ padN C p < nodesI C.W C.H C.T := by
  have h1 := h.2.1.1 p (List.mem_append.2 (.inr hp))
  exact node_bd h.1 (by omega) (by simp only [inG, gw, gh, gd]; omega)
theorem in_node {C : Cfg} (h : C.ok) {t k : Nat} (ht : t < C.tiles.length) (hk : k < 4) : nodeE C.W C.H C.T 1 ((t : Int) % C.W) ((t : Int) / C.W) (k : Int) = 0 ∧ 0 ≤ inN C t k ∧ inN C t k < nodesI C.W C.H C.T := by
  obtain ⟨h1, h2⟩ := tile_there h ht
  exact node_bd h.1 (by omega) (by simp only [inG, gw, gh, gd]; omega)
theorem dE_zero {C : Cfg} (h : dE C = 0) : C.ok ∧ (labs C).Nodup := by
  unfold dE at h
  by_cases h1 : C.ok
  · rw [if_pos h1] at h
    by_cases h2 : (labs C).Nodup
    · exact ⟨h1, h2⟩
    · rw [if_neg h2] at h; cases h
  · rw [if_neg h1] at h; cases h
theorem dL_length {C : Cfg} (h : dE C = 0) : ((dL C).length : Int) = nodesI C.W C.H C.T := by
  obtain ⟨h1, h2⟩ := dE_zero h
  have := nodes_bd h1.1
  unfold dL
  rw [if_pos ⟨h1, h2⟩]
  simp only [driversL, List.length_map, joinedL, List.length_range]
  omega
theorem whoseOf_bd (l : List Nat) (n : Nat) : -1 ≤ whoseOf l n ∧ whoseOf l n ≤ l.length := by
  unfold whoseOf
  cases h : l.findIdx? (· == n) with
  | none => constructor <;> simp only <;> omega
  | some w =>
    have := (List.findIdx?_eq_some_iff_getElem.1 h).1
    constructor <;> simp only <;> omega
theorem dv_bd {C : Cfg} (hf : C.few) (n : Int) : -1 ≤ dv C n ∧ dv C n ≤ 10000 := by
  unfold dv dL
  by_cases h : C.ok ∧ (labs C).Nodup
  · rw [if_pos h]
    unfold driversL
    rw [List.getD_eq_getElem?_getD, List.getElem?_map]
    cases (joinedL C)[n.toNat]? with
    | none => simp
    | some m =>
      have := whoseOf_bd (labs C) m
      have h2 := labs_length C
      have h3 := hf.1
      have h4 := hf.2.2.1
      simp only [Option.map_some, Option.getD_some]
      omega
  · rw [if_neg h]; simp
/-- what Read holds: blocks, and memory since the drivers were told -/
structure RW (w1 wx : World) (I : Int) (AB : Option Addr) (cB : Nat) (bs : List BL) (AU : Option Addr) (cU : Nat) (us : List Int) : Prop where
  below : Below w1.heap.size w1 wx
  pk : Blk wx w1.heap.size 33 #[.int .i64 I, .slice AB bs.length cB, .slice AU us.length cU]
  blocks : wx.ownsRow (w1.heap.size + 1) 67 4 (.slice AB bs.length cB) bs.length (blocks4 bs)
  each : ∀ b ∈ bs, wx.ownsRow (w1.heap.size + 1) 3 1 (.slice b.A b.l.length b.c) b.l.length (ints b.l)
  outs : wx.ownsRow (w1.heap.size + 1) 3 1 (.slice AU us.length cU) us.length (ints us)
section
variable {w1 wx wy : World} {I : Int} {AB AU : Option Addr} {cB cU : Nat} {bs : List BL} {us : List Int}
theorem RW.keep (h : RW w1 wx I AB cB bs AU cU us) (hb : Below wx.heap.size wx wy) : RW w1 wy I AB cB bs AU cU us :=
  ⟨below_then h.below hb, h.pk.keep hb, own_keep h.blocks hb, fun b hm => own_keep (h.each b hm) hb, own_keep h.outs hb⟩
theorem RW.lt (h : RW w1 wx I AB cB bs AU cU us) : w1.heap.size < wx.heap.size := h.pk.lt
theorem RW.start (w1 : World) (I : Int) : RW w1 (w1.alloc (.cells #[.int .i64 I, .slice none 0 0, .slice none 0 0] 33)) I none 0 [] none 0 [] :=
  ⟨below_new _ _, Blk.made _ _ _, World.ownsRow_nil _ _ _ _, fun b hb => (nomatch hb), World.ownsRow_nil _ _ _ _⟩
/-- an output more -/
theorem RW.out (h : RW w1 wx I none 0 [] AU cU us) {qB : Option Addr} {qd : Nat} {x : Int} (hr : wy.ownsRow (w1.heap.size + 1) 3 1 (.slice qB (us.length + 1) qd) (us.length + 1) (ints us ++ [.int .i64 x])) (hg : wx.grownBy wy (Value.slice AU us.length cU).ownBlock) :
    RW w1 (wy.setCell ⟨w1.heap.size, 2, none⟩ (.slice qB (us.length + 1) qd)) I none 0 [] qB qd (us ++ [x]) := by
  have hpk := h.pk.grown hg (fun e => own_other h.outs h.pk (by decide) e.symm)
  have hl : (us ++ [x]).length = us.length + 1 := by simp
  have hb := h.below.grown hg (Nat.le_of_lt h.lt) (fun k hk => by have := (h.outs.lt k hk).1; omega)
  refine ⟨hb.setCell (p := ⟨w1.heap.size, 2, none⟩) (Nat.le_refl _) _, ?_, World.ownsRow_nil _ _ _ _, fun b hb => (nomatch hb), ?_⟩
  · rw [hl]
    have := hpk.put 2 (.slice qB (us.length + 1) qd)
    simpa using this
  · rw [hl, show ints (us ++ [x]) = ints us ++ [.int .i64 x] by simp [ints]]
    exact ownsRow_setCell_other hr (a := ⟨w1.heap.size, 2, none⟩) (own_other hr hpk (by decide)) _
/-- a block more -/
theorem RW.blk (h : RW w1 wx I AB cB bs AU cU us) {qB : Option Addr} {qd : Nat} {b : BL} (hbr : wx.ownsRow (w1.heap.size + 1) 3 1 (.slice b.A b.l.length b.c) b.l.length (ints b.l)) (hr : wy.ownsRow (w1.heap.size + 1) 67 4 (.slice qB (bs.length + 1) qd) (bs.length + 1) (blocks4 bs ++ b.cells)) (hg : wx.grownBy wy (Value.slice AB bs.length cB).ownBlock) :
    RW w1 (wy.setCell ⟨w1.heap.size, 1, none⟩ (.slice qB (bs.length + 1) qd)) I qB qd (bs ++ [b]) AU cU us := by
  have hpk := h.pk.grown hg (fun e => own_other h.blocks h.pk (by decide) e.symm)
  have hl : (bs ++ [b]).length = bs.length + 1 := by simp
  have hb := h.below.grown hg (Nat.le_of_lt h.lt) (fun k hk => by have := (h.blocks.lt k hk).1; omega)
  have apart : ∀ {n c : Nat} {A : Option Addr} {xs : List Value}, wx.ownsRow (w1.heap.size + 1) 3 1 (.slice A n c) n xs → (wy.setCell ⟨w1.heap.size, 1, none⟩ (.slice qB (bs.length + 1) qd)).ownsRow (w1.heap.size + 1) 3 1 (.slice A n c) n xs := fun ho => by
    have h1 := (Chg.of_grown hg).own ho fun g hgo e => by
      obtain ⟨cs, hi⟩ := own_int ho hgo
      exact own_other h.blocks hi (by decide) e.symm
    exact ownsRow_setCell_other h1 (a := ⟨w1.heap.size, 1, none⟩) (own_other h1 hpk (by decide)) _
  refine ⟨hb.setCell (p := ⟨w1.heap.size, 1, none⟩) (Nat.le_refl _) _, ?_, ?_, fun d hd => ?_, apart h.outs⟩
  · rw [hl]
    have := hpk.put 1 (.slice qB (bs.length + 1) qd)
    simpa using this
  · rw [hl, show blocks4 (bs ++ [b]) = blocks4 bs ++ b.cells by simp [blocks4]]
    exact ownsRow_setCell_other hr (a := ⟨w1.heap.size, 1, none⟩) (own_other hr hpk (by decide)) _
  · rcases List.mem_append.1 hd with hd | hd
    · exact apart (h.each d hd)
    · rw [List.mem_singleton.1 hd]; exact apart hbr
/-- a cell of another block of the call's own -/
theorem RW.apart (h : RW w1 wx I AB cB bs AU cU us) {g : Nat} {t : TypeId} {cs : Array Value} (hb : Blk wx g t cs) (hg : w1.heap.size < g) (h2 : 67 ≠ t) (h3 : 3 ≠ t) (i : Nat) (v : Value) : RW w1 (wx.setCell ⟨g, i, none⟩ v) I AB cB bs AU cU us :=
  ⟨h.below.setCell (p := ⟨g, i, none⟩) (Nat.le_of_lt hg) v, h.pk.apart (show w1.heap.size ≠ g by omega) v, ownsRow_setCell_other h.blocks (a := ⟨g, i, none⟩) (own_other h.blocks hb h2) v,
    fun b hm => ownsRow_setCell_other (h.each b hm) (a := ⟨g, i, none⟩) (own_other (h.each b hm) hb h3) v, ownsRow_setCell_other h.outs (a := ⟨g, i, none⟩) (own_other h.outs hb h3) v⟩
theorem RW.in (h : RW w1 wx I AB cB bs AU cU us) : PK.In ⟨I, AB, cB, bs, AU, cU, us⟩ wx := ⟨Rd.of_own h.blocks, fun b hb => Rd.of_own (h.each b hb), Rd.of_own h.outs⟩
end
/-- the wires of a tile as far as they are told -/
def mixD (D : List Int) (j : Nat) : List Int := (List.range 4).map fun i => if i < j then D.getD i 0 else 0
theorem mixD_next (D : List Int) {j : Nat} (hj : j < 4) : (mixD D j).set j (D.getD j 0) = mixD D (j + 1) := by rcases lt4 hj with rfl | rfl | rfl | rfl <;> rfl
theorem mixD_get (D : List Int) {j : Nat} (hj : j < 4) : (mixD D j)[j]? = some 0 := by rcases lt4 hj with rfl | rfl | rfl | rfl <;> rfl
theorem mixD_four (a b c d : Int) : mixD [a, b, c, d] 4 = [a, b, c, d] := rfl
theorem blockT_lt (D : List Int) (t : Nat) : blockT D t < 2 ^ 2 ^ (kpL D 4).length := pk_lt _ _ _
theorem blockT_bd (D : List Int) (t : Nat) : blockT D t ≤ 65536 := by
  have h1 := blockT_lt D t
  have h2 : 2 ^ (kpL D 4).length ≤ 2 ^ 4 := Nat.pow_le_pow_right (by omega) (kpL_len D 4)
  have h3 : 2 ^ 2 ^ (kpL D 4).length ≤ 2 ^ 16 := Nat.pow_le_pow_right (by omega) h2
  omega
theorem pack_fit {C : Cfg} (hf : C.few) {P : PK} (h : P.plain = packD C) : P.fit := by
  simp only [PK.plain, packD, Prod.mk.injEq] at h
  obtain ⟨h1, h2, h3⟩ := h
  have hb : ∀ b ∈ P.bs, ∃ t, blkD C t = b.plain := fun b hb => by
    have : b.plain ∈ P.bs.map BL.plain := List.mem_map.2 ⟨b, hb, rfl⟩
    rw [h2] at this
    obtain ⟨t, -, ht⟩ := List.mem_map.1 this
    exact ⟨t, ht⟩
  have hn : P.bs.length = C.tiles.length := by have := congrArg List.length h2; simpa using this
  have hi := hf.2.2.1
  have ho := hf.2.2.2
  have ht := hf.1
  refine ⟨by omega, by omega, fun b hm => ?_, fun b hm => ?_, ?_⟩
  · obtain ⟨t, e⟩ := hb b hm
    simp only [blkD, BL.plain, Prod.mk.injEq] at e
    have := blockT_bd (insD C t) (C.tiles[t]!).1.toNat
    omega
  · obtain ⟨t, e⟩ := hb b hm
    simp only [blkD, BL.plain, Prod.mk.injEq] at e
    rw [← e.1, natI_length, ipL_len]
    have := kpL_len (insD C t) 4
    omega
  · rw [h3]; simp [outsD]; omega
/-- blocks told -/
theorem read_ok {fn : Func} (hres : fn.results = #[.cell 2 33, .tmp 3]) (C : Cfg) (P : PK) (w wx : World) (tmps : Array Value) {a b c : Value} (hB : Below w.heap.size w wx) (hZ : Blk wx (w.heap.size + 1) 33 #[a, b, c]) (hx : ReadR C P 0) (hI : P.In (((wx.setCell ⟨w.heap.size + 1, 0, none⟩ (.int .i64 P.I)).setCell ⟨w.heap.size + 1, 1, none⟩ (.slice P.AB P.bs.length P.cB)).setCell ⟨w.heap.size + 1, 2, none⟩ (.slice P.AO P.outs.length P.cO))) (hf : P.fit)
    (h2 : tmps.getD 2 undef = .pointer (some ⟨w.heap.size + 1, 0, none⟩)) (h3 : tmps.getD 3 undef = .int .i64 0) :
    bodyPost Tryz.prog fn (ReadOut C w) .ret { tmps := tmps, defers := [] } (((wx.setCell ⟨w.heap.size + 1, 0, none⟩ (.int .i64 P.I)).setCell ⟨w.heap.size + 1, 1, none⟩ (.slice P.AB P.bs.length P.cB)).setCell ⟨w.heap.size + 1, 2, none⟩ (.slice P.AO P.outs.length P.cO)) := by
  have hz := set3 hZ (.int .i64 P.I) (.slice P.AB P.bs.length P.cB) (.slice P.AO P.outs.length P.cO)
  have hr := results_pack hres tmps _ _ _ rfl h2 hz
  rw [h3] at hr
  have hb : ∀ {W : World} (hB : Below w.heap.size w W) (j : Nat) (v : Value), Below w.heap.size w (W.setCell ⟨w.heap.size + 1, j, none⟩ v) := fun hB j v => hB.setCell (p := ⟨w.heap.size + 1, j, none⟩) (show w.heap.size ≤ w.heap.size + 1 by omega) v
  exact bodyPost_ret hr rfl ⟨P, 0, rfl, hb (hb (hb hB 0 _) 1 _) 2 _, hI, hf, hx, fun h => absurd rfl h⟩
/-- rows stay when a cell of an elder block is another one -/
theorem RW.setIn {w1 wx : World} {I : Int} {AB AU : Option Addr} {cB cU : Nat} {bs : List BL} {us : List Int} (h : RW w1 wx I AB cB bs AU cU us) {g : Nat} (hg : g < w1.heap.size) (x y z : Value) :
    PK.In ⟨I, AB, cB, bs, AU, cU, us⟩ (((wx.setCell ⟨g, 0, none⟩ x).setCell ⟨g, 1, none⟩ y).setCell ⟨g, 2, none⟩ z) := by
  have k : ∀ {e : TypeId} {size n c : Nat} {A : Option Addr} {xs : List Value}, wx.ownsRow (w1.heap.size + 1) e size (.slice A n c) n xs → Rd (((wx.setCell ⟨g, 0, none⟩ x).setCell ⟨g, 1, none⟩ y).setCell ⟨g, 2, none⟩ z) size A n c xs := fun ho =>
    Rd.of_own (ownsRow_setCell_below (ownsRow_setCell_below (ownsRow_setCell_below ho (a := ⟨g, 0, none⟩) (show g < w1.heap.size + 1 by omega) x) (a := ⟨g, 1, none⟩) (show g < w1.heap.size + 1 by omega) y) (a := ⟨g, 2, none⟩) (show g < w1.heap.size + 1 by omega) z)
  exact ⟨k h.blocks, fun b hb => k (h.each b hb), k h.outs⟩
end Go.Proofs.YtoloaecbfglaeaaGreat
