/- filigreeref24.values. -/
import Derived.Test.YtkhlllbceceikaaDoorTabP
namespace Go.Proofs.YtkhlllbceceikaaDoor
open Go.RowKit
set_option linter.unusedVariables false
set_option linter.unusedSimpArgs false

theorem u64_infoA : (Tryd.prog.info? 27).map (fun i => (i.zero, i.size, i.bytes)) = some (some (.int .u64 0), 1, 8) := by kernel_rfl
theorem bools_get {N : Nat} (T : Nat → Option Nat) {n : Nat} (h : n < N) : (bools (okA N T)).toArray[n]? = some (.bool (T n).isSome) := by
  simp [bools, okA, List.getElem?_map, List.getElem?_range h]
theorem u64s_get {N : Nat} (T : Nat → Option Nat) {n : Nat} (h : n < N) : (u64s (vA N T)).toArray[n]? = some (.int .u64 ((T n).getD 0 : Nat)) := by
  simp [u64s, vA, List.getElem?_map, List.getElem?_range h]
theorem okA_none (N : Nat) : bools (okA N (fun _ => none)) = List.replicate N (.bool false) := by simp [bools, okA, List.map_const']
theorem vA_none (N : Nat) : u64s (vA N (fun _ => none)) = List.replicate N (.int .u64 0) := by simp [u64s, vA, List.map_const']
/-- the two rows of values, in memory -/
structure VM (w : World) (N g1 g2 : Nat) (T : Nat → Option Nat) : Prop where
  ok : Blk w g1 4 (bools (okA N T)).toArray
  v : Blk w g2 27 (u64s (vA N T)).toArray
theorem VM.ne {w : World} {N g1 g2 : Nat} {T : Nat → Option Nat} (h : VM w N g1 g2 T) : g1 ≠ g2 := h.ok.other h.v (by decide)
theorem VM.keep {w w' : World} {N g1 g2 : Nat} {T : Nat → Option Nat} (h : VM w N g1 g2 T) (hb : Below w.heap.size w w') : VM w' N g1 g2 T := ⟨h.ok.keep hb, h.v.keep hb⟩
theorem VM.put {w : World} {N g1 g2 : Nat} {T : Nat → Option Nat} (h : VM w N g1 g2 T) (x v : Nat) (hx : x < N) {w' : World} (hb : Below w.heap.size (w.setCell ⟨g1, x, none⟩ (.bool true)) w') :
    VM (w'.setCell ⟨g2, x, none⟩ (.int .u64 (v : Int))) N g1 g2 (Cut.upd T x v) := by
  have h1 := (h.ok.put x (.bool true)).below hb h.ok.lt
  have h2 := (h.v.apart (p := ⟨g1, x, none⟩) h.ne.symm (.bool true)).below hb h.v.lt
  refine ⟨?_, ?_⟩
  · have := h1.apart (p := ⟨g2, x, none⟩) h.ne (.int .u64 (v : Int))
    rw [← okA_upd N T x v, ← bools_set]
    simpa using this
  · have := h2.put x (.int .u64 (v : Int))
    rw [← vA_upd, ← u64s_set]
    simpa using this
theorem VM.made {w : World} {N g1 g2 : Nat} (h1 : Blk w g1 4 (Array.replicate N (Value.bool false))) (h2 : Blk w g2 27 (Array.replicate N (Value.int .u64 0))) : VM w N g1 g2 (fun _ => none) := by
  refine ⟨?_, ?_⟩
  · rw [okA_none]; simpa using h1
  · rw [vA_none]; simpa using h2
theorem VM.zero {w : World} {N g1 g2 : Nat} (h : VM w N g1 g2 (fun _ => none)) : VM (w.setCell ⟨g1, 0, none⟩ (.bool true)) N g1 g2 (fun n => if n = 0 then some 0 else none) := by
  refine ⟨?_, ?_⟩
  · have := h.ok.put 0 (.bool true)
    have e : (fun n => if n = 0 then some 0 else none : Nat → Option Nat) = Cut.upd (fun _ => none) 0 0 := rfl
    rw [e, ← okA_upd N, ← bools_set]
    simpa using this
  · have := h.v.apart (p := ⟨g1, 0, none⟩) h.ne.symm (.bool true)
    have e : vA N (fun n => if n = 0 then some 0 else none : Nat → Option Nat) = vA N (fun _ => none) := List.map_congr_left fun n _ => by
      by_cases h : n = 0 <;> simp [h]
    rw [e]
    exact this
theorem VM.drew {w : World} {N g1 g2 : Nat} {T : Nat → Option Nat} (h : VM w N g1 g2 T) : VM w.drew N g1 g2 T := ⟨h.ok, h.v⟩
theorem VM.congr {w : World} {N g1 g2 : Nat} {T T' : Nat → Option Nat} (h : VM w N g1 g2 T) (e : ∀ n, n < N → T n = T' n) : VM w N g1 g2 T' := ⟨by rw [← okA_congr e]; exact h.ok, by rw [← vA_congr e]; exact h.v⟩
theorem rd_blk {w : World} {g : Nat} {t : TypeId} {cs : List Value} {n : Nat} (h : Blk w g t cs.toArray) (hn : cs.length = n) : Rd w 1 (some ⟨g, 0, none⟩) n n cs := by
  refine ⟨by omega, Nat.le_refl _, (fun e => nomatch e), fun j u hj => ⟨⟨g, 0, none⟩, rfl, h.lt, ?_⟩⟩
  have e : (⟨g, 0, none⟩ : Addr).add j = ⟨g, j, none⟩ := by unfold Addr.add; by_cases h : j = 0 <;> simp [h]
  rw [e, h.cell j]
  simpa using hj
theorem litM_lt {m x a : Nat} (hm : m < 18446744073709551616) (hx : x < 18446744073709551616) : Cut.litM m x a < 18446744073709551616 := by
  unfold Cut.litM
  split
  · exact Nat.lt_of_le_of_lt Nat.and_le_right hm
  · exact hx
theorem vA_mem {N : Nat} {T : Nat → Option Nat} (h : ∀ n v, T n = some v → v < 18446744073709551616) : ∀ x ∈ vA N T, x < 18446744073709551616 := by
  intro x hx
  obtain ⟨n, -, rfl⟩ := List.mem_map.1 hx
  cases hT : T n with
  | none => simp
  | some v => exact h n v hT
def ValsOut (G : AG) (l : List Int) (node : Nat) (w : World) (r : Ending) (w' : World) : Prop :=
  ∃ g1 g2, r = .returned (.tuple #[.slice (some ⟨g1, 0, none⟩) G.cn G.cn, .slice (some ⟨g2, 0, none⟩) G.cn G.cn]) ∧ Below w.heap.size w w' ∧ VM w' G.cn g1 g2 (G.spec l (max G.fst (node + 1)))
set_option maxRecDepth 100000 in
set_option maxHeartbeats 2000000 in
theorem values_any (G : AG) (A : Option Addr) (c : Nat) (l : List Int) (node : Nat) (w : World) (hin : G.In w) (hf : G.fit) (hok : G.ok) (hr : Rd w 1 A l.length c (ints l)) (hl : leavesB G.cnt l = true) (hn : node < G.cn) :
    Calls Tryd.prog 38 #[.agg #[.int .i64 G.I, .slice G.AF G.fl.length G.cF, .slice G.AA G.an.length G.cA, .slice G.AO G.ou.length G.cO], .int .i64 (node : Int), .slice A l.length c] w (ValsOut G l node w) := by
  have hcn := hok.cnt
  have hfN := hok.firstN
  have hl6 := leavesB_len hl
  have hcf := hf.i
  have hcf2 := hf.f
  have hcf3 := hf.a
  have hi0 := hok.1
  have hfst : G.fst ≤ 2001 := by unfold AG.fst; omega
  have hcn1 : G.cn ≤ 3001 := by unfold AG.cn; omega
  have hcnF : G.cn = G.fst + G.an.length := rfl
  have hfst0 : 1 ≤ G.fst := by unfold AG.fst; omega
  have hfI : (1 : Int) + G.I + (G.fl.length : Int) = (G.fst : Int) := by unfold AG.fst; omega
  have HCO := Lib.hid (fun (W : World) => (show (1 + G.cnt) = (G.cn : Int) by omega) ▸ rcount_any G W hi0 hf)
  have HMEM := Lib.hid (fun (i : Nat) (hi : i < l.length) => leavesB_mem hl hi)
  have HSP := Lib.hid (G.spec_start l hl6)
  have HLT := Lib.hid (fun (x n v : Nat) (h : G.spec l x n = some v) => AG.spec_lt hl6 h)
  have HTG := Lib.hid (fun (x i a b : Nat) (h1 : G.fst + i = x) (h2 : G.ands[i]? = some (a, b)) (h3 : a / 2 < x) (h4 : b / 2 < x) => AG.table_gate (l := l) hl6 h1 h2 h3 h4)
  have HG := Lib.hid (fun (i : Nat) (hi : i < G.an.length) => hok.gate hi)
  have HIN := Lib.hid hin
  have HRD := Lib.hid hr
  obtain ⟨i0, hi0', hz0, hz1, hz2⟩ := info_parts (show (Tryd.prog.info? 4).map (fun i => (i.zero, i.size, i.bytes)) = some (some (.bool false), 1, 1) by kernel_rfl)
  obtain ⟨j0, hj0, hy0, hy1, hy2⟩ := info_parts u64_infoA
  have hmk1 : ∀ w : World, (Instr.makeSlice 57 (.int .i64 (G.cn : Int)) (.int .i64 (G.cn : Int))).run Tryd.prog w = .ok (.slice (some ⟨w.heap.size, 0, none⟩) G.cn G.cn) (w.alloc (.cells (List.replicate G.cn (.bool false)).toArray 4)) := fun w => by
    have := run_make (P := Tryd.prog) w 57 4 i0 (.bool false) Tryd.underlying57 hi0' hz0 .i64 .i64 (G.cn : Int) (G.cn : Int) (by omega) (Int.le_refl _) (by rw [hz2]; omega) (by omega)
    rw [this, hz1]
    simp [Value.cells, made_eq]
  have hmk2 : ∀ w : World, (Instr.makeSlice 66 (.int .i64 (G.cn : Int)) (.int .i64 (G.cn : Int))).run Tryd.prog w = .ok (.slice (some ⟨w.heap.size, 0, none⟩) G.cn G.cn) (w.alloc (.cells (List.replicate G.cn (.int .u64 0)).toArray 27)) := fun w => by
    have := run_make (P := Tryd.prog) w 66 27 j0 (.int .u64 0) Tryd.underlying66 hj0 hy0 .i64 .i64 (G.cn : Int) (G.cn : Int) (by omega) (Int.le_refl _) (by rw [hy2]; omega) (by omega)
    rw [this, hy1]
    simp [Value.cells, made_eq]
  have HMK1 := Lib.hid hmk1
  have HMK2 := Lib.hid hmk2
  clear hi0' hz0 hz1 hz2 hj0 hy0 hy1 hy2 hmk1 hmk2
  have X0 := Lib.hid (Blk.made w 26 #[.int .i64 G.I, .slice G.AF G.fl.length G.cF, .slice G.AA G.an.length G.cA, .slice G.AO G.ou.length G.cO])
  have B0 := Lib.hid (below_new w (.cells #[.int .i64 G.I, .slice G.AF G.fl.length G.cF, .slice G.AA G.an.length G.cA, .slice G.AO G.ou.length G.cO] 26))
  unfold ValsOut
  obtain ⟨N, hN⟩ : ∃ N, G.cn = N := ⟨_, rfl⟩
  obtain ⟨F, hF⟩ : ∃ F, G.fst = F := ⟨_, rfl⟩
  rw [hN] at HCO HMK1 HMK2 hn hcn1 hcnF ⊢
  rw [hF] at hcnF hfst hfst0 hfI HSP HTG HG ⊢
  have HN := Lib.hid hN
  have HF := Lib.hid hF
  have HCNF := Lib.hid hcnF
  clear hcnF hcn hfN hl hcf hcf2 hcf3 hin hr hN hF
  obtain ⟨AF, hAF⟩ : ∃ A, G.AF = A := ⟨_, rfl⟩
  obtain ⟨AA, hAA⟩ : ∃ A, G.AA = A := ⟨_, rfl⟩
  obtain ⟨AO, hAO⟩ : ∃ A, G.AO = A := ⟨_, rfl⟩
  rw [hAF, hAA, hAO] at HCO X0 B0 ⊢
  have HAF := Lib.hid hAF
  have HAA := Lib.hid hAA
  have HAO := Lib.hid hAO
  clear hAF hAA hAO
  go_enter Tryd.func38, Tryd.ntmps38
  have c0 := X0.out.cell 0
  have c1 := X0.out.cell 1
  have c2 := X0.out.cell 2
  have c3 := X0.out.cell 3
  go_wp2_with fail
  refine (HCO.out _).mono ?_
  rintro e w1 ⟨rfl, hb1⟩
  have X1 := Lib.hid (X0.out.keep hb1)
  have B1 := Lib.hid (below_then B0.out hb1)
  clear hb1 X0 B0 c0 c1 c2 c3
  have hmk1 := HMK1.out
  have c0 := X1.out.cell 0
  have c1 := X1.out.cell 1
  have c2 := X1.out.cell 2
  have c3 := X1.out.cell 3
  go_upto_region 2 with (fail)
  have M2 := Lib.hid (Blk.made w1 4 (Array.replicate N (Value.bool false)))
  have X2 := Lib.hid (X1.out.alloc (.cells (Array.replicate N (Value.bool false)) 4))
  have B2 := Lib.hid (below_then B1.out (below_new w1 (.cells (Array.replicate N (Value.bool false)) 4)))
  have G2 := Lib.hid (show w.heap.size < w1.heap.size from X1.out.lt)
  generalize w1.alloc (.cells (Array.replicate N (Value.bool false)) 4) = w2 at M2 X2 B2 ⊢
  obtain ⟨g1, hg1⟩ : ∃ g, w1.heap.size = g := ⟨_, rfl⟩
  rw [hg1] at M2 G2 ⊢
  clear hg1 hmk1 HMK1 X1 B1 c0 c1 c2 c3
  have c0 := X2.out.cell 0
  have c1 := X2.out.cell 1
  have c2 := X2.out.cell 2
  have c3 := X2.out.cell 3
  go_wp2_with fail
  refine (HCO.out _).mono ?_
  rintro e w3 ⟨rfl, hb3⟩
  have X3 := Lib.hid (X2.out.keep hb3)
  have M3 := Lib.hid (M2.out.keep hb3)
  have B3 := Lib.hid (below_then B2.out hb3)
  clear hb3 X2 M2 B2 c0 c1 c2 c3
  have hmk2 := HMK2.out
  go_upto_region 3 with (fail)
  have V4 := Lib.hid (VM.made (M3.out.alloc (.cells (Array.replicate N (Value.int .u64 0)) 27)) (Blk.made w3 27 (Array.replicate N (Value.int .u64 0))))
  have X4 := Lib.hid (X3.out.alloc (.cells (Array.replicate N (Value.int .u64 0)) 27))
  have B4 := Lib.hid (below_then B3.out (below_new w3 (.cells (Array.replicate N (Value.int .u64 0)) 27)))
  have G3 := Lib.hid (show w.heap.size < w3.heap.size from X3.out.lt)
  generalize w3.alloc (.cells (Array.replicate N (Value.int .u64 0)) 27) = w4 at V4 X4 B4 ⊢
  obtain ⟨g2, hg2⟩ : ∃ g, w3.heap.size = g := ⟨_, rfl⟩
  rw [hg2] at V4 G3 ⊢
  clear hg2 hmk2 HMK2 X3 M3 B3
  have hN0 : 0 < N := by omega
  have v0 : w4.cell? ⟨g1, 0, none⟩ = some (.bool false) := (V4.out.ok.cell 0).trans (bools_get _ hN0)
  have f0 := V4.out.ok.free 0
  go_upto_region 4 with (fail)
  have V5 := Lib.hid V4.out.zero
  have X5 := Lib.hid (X4.out.apart (p := ⟨g1, 0, none⟩) (Nat.ne_of_lt G2.out) (.bool true))
  have B5 := Lib.hid (B4.out.setCell (p := ⟨g1, 0, none⟩) (Nat.le_of_lt G2.out) (.bool true))
  generalize w4.setCell ⟨g1, 0, none⟩ (.bool true) = w5 at V5 X5 B5 ⊢
  clear V4 X4 B4 v0 f0
  go_wp2_with fail
  go_loopw [10] (fun i wx => ∃ k : Nat, k ≤ l.length ∧ i = .int .i64 (k : Int) ∧ VM wx N g1 g2 (Cut.knownTo l (fun i => Cut.colM i l.length) k) ∧ Blk wx w.heap.size 26 #[.int .i64 G.I, .slice AF G.fl.length G.cF, .slice AA G.an.length G.cA, .slice AO G.ou.length G.cO] ∧ Below w.heap.size w wx) (fun i _ => l.length - (intOf i).toNat)
  case atStart => exact ⟨0, by omega, rfl, V5.out, X5.out, B5.out⟩
  case round =>
    obtain ⟨k, hk, rfl, hV, hX, hB⟩ := hrel
    have V6 := Lib.hid hV
    have X6 := Lib.hid hX
    have B6 := Lib.hid hB
    clear hV hX hB V5 X5 B5
    by_cases hlt : k < l.length
    case neg =>
      obtain rfl : k = l.length := by omega
      have V7 := Lib.hid (VM.congr V6.out fun n _ => (HSP.out n).symm)
      have HBX := Lib.hid (Nat.ne_of_lt G2.out)
      clear V6
      have c0 := X6.out.cell 0
      have c1 := X6.out.cell 1
      go_wp2_with fail
      clear c0 c1
      have hmax : F ≤ max F (node + 1) := Nat.le_max_left _ _
      go_loopw [12] (fun i wx => ∃ y : Nat, F ≤ y ∧ y ≤ max F (node + 1) ∧ i = .int .i64 (y : Int) ∧ VM wx N g1 g2 (G.spec l y) ∧ Blk wx w.heap.size 26 #[.int .i64 G.I, .slice AF G.fl.length G.cF, .slice AA G.an.length G.cA, .slice AO G.ou.length G.cO] ∧ Below w.heap.size w wx) (fun i _ => max F (node + 1) - (intOf i).toNat)
      case atStart => exact ⟨F, by omega, by omega, rfl, V7.out, X6.out, B6.out⟩
      case round =>
        obtain ⟨y, hy0, hy1, rfl, hV, hX, hB⟩ := hrel
        have V8 := Lib.hid hV
        have X8 := Lib.hid hX
        have B8 := Lib.hid hB
        clear hV hX hB V7 X6 B6
        by_cases hlt : y ≤ node
        case neg =>
          have hye : y = max F (node + 1) := by omega
          have hlt' : ¬ (y : Int) ≤ (node : Int) := by omega
          have V9 := Lib.hid (hye ▸ V8.out)
          clear hye
          go_wp2_with fail
          go_ret2
          exact ⟨g1, g2, rfl, B8.out, V9.out⟩
        obtain ⟨i, hi⟩ : ∃ i, y - F = i := ⟨_, rfl⟩
        have hia : i < G.an.length := by have := HCNF.out; omega
        have hyi : F + i = y := by omega
        have hyF : (y : Int) - (F : Int) = (i : Int) := by omega
        have hlt' : (y : Int) ≤ (node : Int) := by omega
        have hyN : y < N := by omega
        obtain ⟨a, b, hg, hgs, ha, hb, ha3, hb3⟩ := HG.out i hia
        rw [hyi] at ha hb
        have htab := HTG.out y i a b hyi hgs ha hb
        have hsa : G.spec l y (a / 2) = G.table l (a / 2) := if_pos ha
        have hsb : G.spec l y (b / 2) = G.table l (b / 2) := if_pos hb
        have hsy : G.spec l y y = Cut.known l (fun i => Cut.colM i l.length) y := if_neg (Nat.lt_irrefl _)
        have haN : a / 2 < N := by omega
        have hbN : b / 2 < N := by omega
        obtain ⟨pa, hPA, hpb, e0, e1⟩ := HIN.out.an.two (pc_get G.an i hia).1 (pc_get G.an i hia).2
        rw [hg] at e0 e1
        rw [HAA.out] at hPA
        subst hPA
        obtain ⟨ga, hga⟩ : ∃ p, pa.add (i * 2) = p := ⟨_, rfl⟩
        have hgab : ga.block < w.heap.size := by rw [← hga, add_block]; exact hpb
        rw [hga] at e0 e1
        have e2 : wr.cell? ga = some (.int .i64 (a : Int)) := (B8.out.cell hgab).trans e0
        have e3 : wr.cell? ⟨ga.block, ga.off + 1, none⟩ = some (.int .i64 (b : Int)) := (B8.out.cell (p := ⟨ga.block, ga.off + 1, none⟩) hgab).trans e1
        clear e0 e1
        have o0 : wr.cell? ⟨g1, y, none⟩ = some (.bool _) := (V8.out.ok.cell y).trans (bools_get _ hyN)
        have o1 : wr.cell? ⟨g1, a / 2, none⟩ = some (.bool _) := (V8.out.ok.cell (a / 2)).trans (bools_get _ haN)
        have o2 : wr.cell? ⟨g1, b / 2, none⟩ = some (.bool _) := (V8.out.ok.cell (b / 2)).trans (bools_get _ hbN)
        rw [hsy] at o0
        rw [hsa] at o1
        rw [hsb] at o2
        have HSA := Lib.hid hsa
        have HSB := Lib.hid hsb
        have c2 := X8.out.cell 2
        obtain ⟨a2, ha2⟩ : ∃ d, a / 2 = d := ⟨_, rfl⟩
        obtain ⟨b2, hb2⟩ : ∃ d, b / 2 = d := ⟨_, rfl⟩
        have hae : (a : Int) / 2 = (a2 : Int) := by omega
        have hbe : (b : Int) / 2 = (b2 : Int) := by omega
        rw [ha2] at o1 htab HSA haN ha
        rw [hb2] at o2 htab HSB hbN hb
        have HA2 := Lib.hid ha2
        have HB2 := Lib.hid hb2
        clear hi hg hgs hsa hsb hsy hpb ha2 hb2
        cases hk : Cut.known l (fun i => Cut.colM i l.length) y with
        | some z =>
          rw [hk] at htab o0
          have HNX := Lib.hid (VM.congr V8.out fun n _ => (AG.spec_same (htab.trans hk.symm) n).symm)
          clear htab hk
          have o0' : wr.cell? ⟨g1, y, none⟩ = some (.bool true) := o0
          clear o0 o1 o2
          go_wp2_with fail
          go_roundw
          case rel => exact ⟨y + 1, by omega, by omega, by go_num, HNX.out, X8.out, B8.out⟩
          case measure => simp [intOf]; omega
        | none =>
          rw [hk] at htab o0
          have o0' : wr.cell? ⟨g1, y, none⟩ = some (.bool false) := o0
          clear o0
          cases hta : G.table l a2 with
          | none =>
            rw [hta] at htab o1
            have HNX := Lib.hid (VM.congr V8.out fun n _ => (AG.spec_same (htab.trans hk.symm) n).symm)
            clear htab hk
            have o1' : wr.cell? ⟨g1, a2, none⟩ = some (.bool false) := o1
            clear o1 o2
            go_wp2_with fail
            go_roundw
            case rel => exact ⟨y + 1, by omega, by omega, by go_num, HNX.out, X8.out, B8.out⟩
            case measure => simp [intOf]; omega
          | some u =>
            rw [hta] at htab o1
            have o1' : wr.cell? ⟨g1, a2, none⟩ = some (.bool true) := o1
            clear o1
            cases htb : G.table l b2 with
            | none =>
              rw [htb] at htab o2
              have HNX := Lib.hid (VM.congr V8.out fun n _ => (AG.spec_same (htab.trans hk.symm) n).symm)
              clear htab hk
              have o2' : wr.cell? ⟨g1, b2, none⟩ = some (.bool false) := o2
              clear o2
              go_wp2_with fail
              go_roundw
              case rel => exact ⟨y + 1, by omega, by omega, by go_num, HNX.out, X8.out, B8.out⟩
              case measure => simp [intOf]; omega
            | some v =>
              rw [htb] at htab o2
              have o2' : wr.cell? ⟨g1, b2, none⟩ = some (.bool true) := o2
              clear o2
              have f0 := V8.out.ok.free y
              have HTB := Lib.hid htab
              have hu64 := AG.table_lt hl6 hta
              have hv64 := AG.table_lt hl6 htb
              have hga2 : (vA N (G.spec l y)).getD (a / 2) 0 = u := by rw [HA2.out, vA_get _ haN, HSA.out, hta]; rfl
              have hgb2 : (vA N (G.spec l y)).getD (b / 2) 0 = v := by rw [HB2.out, vA_get _ hbN, HSB.out, htb]; rfl
              have HGA := Lib.hid hga2
              have HGB := Lib.hid hgb2
              clear htab hk hta htb hga2 hgb2
              go_upto_region 17 with (fail)
              have V9 := Lib.hid (V8.out.v.apart (p := ⟨g1, y, none⟩) V8.out.ne.symm (.bool true))
              have X9 := Lib.hid (X8.out.apart (p := ⟨g1, y, none⟩) (Nat.ne_of_lt G2.out) (.bool true))
              have B9 := Lib.hid (B8.out.setCell (p := ⟨g1, y, none⟩) (Nat.le_of_lt G2.out) (.bool true))
              obtain ⟨w9, hw9⟩ : ∃ W, wr.setCell ⟨g1, y, none⟩ (.bool true) = W := ⟨_, rfl⟩
              have HW9 := Lib.hid hw9
              rw [hw9] at V9 X9 B9 ⊢
              have H9 := Lib.hid (Below.refl w9.heap.size w9)
              clear hw9 o0' o1' o2' f0 e2 e3 c2
              have HTU := Lib.hid (fun (z : Nat) (W : World) (hB : Below w9.heap.size w9 W) (hz : z / 2 < N) => turned_any (some ⟨g2, 0, none⟩) N N (vA N (G.spec l y)) z l.length W (rd_blk (V9.out.keep hB) (by simp [u64s, vA])) hz (by omega) hl6 (vA_mem (HLT.out y)))
              go_wp2_with fail
              refine (HTU.out a w9 H9.out (by rw [HA2.out]; exact haN)).mono ?_
              rintro e w10 ⟨rfl, hb10⟩
              rw [HGA.out]
              go_wp2_with fail
              refine (HTU.out b w10 hb10 (by rw [HB2.out]; exact hbN)).mono ?_
              rintro e w11 ⟨rfl, hb11⟩
              rw [HGB.out]
              have hb12 := below_then hb10 hb11
              have hR := Cut.rows_lt _ hl6
              have HAND := u64_and_nat _ _ (litM_lt (a := a) hR hu64) (litM_lt (a := b) hR hv64)
              have V11 := Lib.hid (V9.out.keep hb12)
              have v1 : w11.cell? ⟨g2, y, none⟩ = some (.int .u64 _) := (V11.out.cell y).trans (u64s_get _ hyN)
              have f1 := V11.out.free y
              generalize Cut.litM (Cut.rows l.length) u a = ua at HAND HTB ⊢
              generalize Cut.litM (Cut.rows l.length) v b = vb at HAND HTB ⊢
              go_upto_region 12 with (fail)
              have V12 := Lib.hid (VM.congr (V8.out.put y (ua &&& vb) hyN (show Below wr.heap.size (wr.setCell ⟨g1, y, none⟩ (.bool true)) w11 by rw [HW9.out, ← show w9.heap.size = wr.heap.size by rw [← HW9.out]; simp]; exact hb12)) fun n _ => (AG.spec_next HTB.out n).symm)
              have X12 := Lib.hid ((X9.out.keep hb12).apart (p := ⟨g2, y, none⟩) (Nat.ne_of_lt G3.out) (.int .u64 ((ua &&& vb : Nat) : Int)))
              have B12 := Lib.hid ((below_then B9.out hb12).setCell (p := ⟨g2, y, none⟩) (Nat.le_of_lt G3.out) (.int .u64 ((ua &&& vb : Nat) : Int)))
              clear v1 f1 HAND hb10 hb11 hb12
              generalize w11.setCell ⟨g2, y, none⟩ (.int .u64 ((ua &&& vb : Nat) : Int)) = w12 at V12 X12 B12 ⊢
              go_wp2_with fail
              go_roundw
              case rel => exact ⟨y + 1, by omega, by omega, by go_num, V12.out, X12.out, B12.out⟩
              case measure => simp [intOf]; omega
    obtain ⟨a, hA, hab, d0⟩ := HRD.out.int hlt
    obtain ⟨hx1, hx2⟩ := HMEM.out k hlt
    obtain ⟨x, hx⟩ : ∃ x : Nat, l.getD k 0 = (x : Int) := ⟨(l.getD k 0).toNat, by omega⟩
    have HX := Lib.hid hx
    have hxN : x < N := by rw [← HN.out]; have := hok.cnt; omega
    rw [hx] at d0
    rw [hA]
    have HA := Lib.hid hA
    clear hA hx hx1 hx2
    obtain ⟨ad, had⟩ : ∃ ad, a.add k = ad := ⟨_, rfl⟩
    have hadb : ad.block < w.heap.size := by rw [← had, add_block]; exact hab
    rw [had] at d0
    have HD := Lib.hid d0
    have d6 := (B6.out.cell hadb).trans d0
    have v0 : wr.cell? ⟨g1, x, none⟩ = some (.bool _) := (V6.out.ok.cell x).trans (bools_get _ hxN)
    have f0 := V6.out.ok.free x
    clear d0
    go_upto_region 8 with (fail)
    have v1 : (wr.setCell ⟨g1, x, none⟩ (.bool true)).cell? ⟨g2, x, none⟩ = some (.int .u64 _) := ((V6.out.v.apart (p := ⟨g1, x, none⟩) V6.out.ne.symm (.bool true)).cell x).trans (u64s_get _ hxN)
    have f1 := (V6.out.v.apart (p := ⟨g1, x, none⟩) V6.out.ne.symm (.bool true)).free x
    have X7 := Lib.hid (X6.out.apart (p := ⟨g1, x, none⟩) (Nat.ne_of_lt G2.out) (.bool true))
    have B7 := Lib.hid (B6.out.setCell (p := ⟨g1, x, none⟩) (Nat.le_of_lt G2.out) (.bool true))
    obtain ⟨w7, hw7⟩ : ∃ W, wr.setCell ⟨g1, x, none⟩ (.bool true) = W := ⟨_, rfl⟩
    have HW7 := Lib.hid hw7
    rw [hw7] at v1 f1 X7 B7 ⊢
    have d7 := (B7.out.cell hadb).trans HD.out
    have hne : ¬ g2 = ad.block := by have := G3.out; omega
    have hkl : (k : Int) < (l.length : Int) := by omega
    have hxN' : (x : Int) < (N : Int) := by omega
    have HCL := Lib.hid (fun (W : World) => column_any k l.length W (by omega) hl6)
    clear hw7 d6 v0 f0 B6 hab
    go_region_held3 (fun w' => w'.cell? ad = some (.int .i64 (x : Int))) (go_keep) ((go_at_call 54; (with_reducible refine (HCL.out _).mono ?_); rintro e w8 ⟨rfl, rfl⟩))
    have V8 := Lib.hid (V6.out.put x (Cut.colM k l.length) hxN (HW7.out ▸ Below.refl _ _ : Below wr.heap.size (wr.setCell ⟨g1, x, none⟩ (.bool true)) w7)).drew
    have X8 := Lib.hid (X7.out.apart (p := ⟨g2, x, none⟩) (Nat.ne_of_lt G3.out) (.int .u64 (Cut.colM k l.length : Int)))
    have B8 := Lib.hid (below_drewN (B7.out.setCell (p := ⟨g2, x, none⟩) (Nat.le_of_lt G3.out) (.int .u64 (Cut.colM k l.length : Int))) 1)
    have X8 := Lib.hid (show Blk (w7.setCell ⟨g2, x, none⟩ (.int .u64 (Cut.colM k l.length : Int))).drew _ _ _ from X8.out)
    have B8 := Lib.hid (show Below w.heap.size w (w7.setCell ⟨g2, x, none⟩ (.int .u64 (Cut.colM k l.length : Int))).drew from B8.out)
    generalize (w7.setCell ⟨g2, x, none⟩ (.int .u64 (Cut.colM k l.length : Int))).drew = w8 at V8 X8 B8 ⊢
    clear v1 f1 d7 hne hkl hxN' HCL V6 X6 HW7 X7 B7 had hadb HD
    go_wp2_with fail
    go_roundw
    case rel => exact ⟨k + 1, by omega, by go_num, by have := V8.out; simp only [Cut.knownTo, HX.out, Int.toNat_natCast]; exact this, X8.out, B8.out⟩
    case measure => simp [intOf]; omega
end Go.Proofs.YtkhlllbceceikaaDoor
