/- A map of nodes' values, as a function. · filigree/cuts.cone.node. · cuts.table. · cuts.Table, cuts.Check. · cuts.Check. -/
import Derived.Test.YtaajnmggbhnndaaGreatDoorZRTbl
import Derived.Maps.Own
import Derived.Maps.OwnSet
import Derived.Maps.OwnOps
import Derived.Maps.Views
import Derived.Carry
namespace Go.Proofs.YtaajnmggbhnndaaGreatDoor
open Go.RowKit Go.Maps
set_option linter.unusedVariables false
set_option linter.unusedSimpArgs false

theorem key_int : Keyed Tryz.prog 3 := int_keyed Tryz.underlying3
theorem zero_u64 (w : World) : (zeroValue 39).run Tryz.prog w = .ok (.int .u64 0) w := by kernel_rfl
theorem key_lit (n : Nat) : WideAt.IsKeyLit (Lit.int .i64 (n : Int)) := trivial
/-- what a map holds -/
structure Holds (D : DataW Unit) (M : Nat → Option Nat) : Prop where
  map : IsMap D
  has : ∀ n : Nat, Maps.has D (.int .i64 (n : Int)) = (M n).isSome
  at_ : ∀ (n v : Nat), M n = some v → ∀ z, D.atKey (.int .i64 (n : Int)) z = .lit (.int .u64 (v : Int))
theorem Holds.start : Holds (.map []) (fun _ => none) := ⟨isMap_empty, fun n => rfl, fun n v h => by cases h⟩
theorem Holds.put {D : DataW Unit} {M : Nat → Option Nat} (h : Holds D M) (n v : Nat) : Holds (D.put (.int .i64 (n : Int)) (.lit (.int .u64 (v : Int)))) (Cut.upd M n v) := by
  refine ⟨h.map.put _ _, fun m => ?_, fun m u hm z => ?_⟩
  · unfold Cut.upd
    by_cases e : m = n
    · subst e; rw [has_put_same h.map (key_lit _), if_pos rfl]; rfl
    · rw [has_put_other (fun hx => e (by simp at hx; omega)), if_neg e]; exact h.has m
  · unfold Cut.upd at hm
    by_cases e : m = n
    · subst e; rw [if_pos rfl] at hm; cases hm; exact atKey_put_same h.map (key_lit _) _ _
    · rw [if_neg e] at hm
      rw [atKey_put_other (fun hx => e (by simp at hx; omega))]
      exact h.at_ m u hm z
/-- block B is a map of cap entries at most that holds M -/
def MapM (w : World) (B cap : Nat) (M : Nat → Option Nat) : Prop := ∃ D : DataW Unit, w.ownsMap Tryz.prog 3 (plainElem (H := Unit) Tryz.prog 39) B cap D ∧ Holds D M
theorem MapM.lt {w : World} {B cap : Nat} {M : Nat → Option Nat} (h : MapM w B cap M) : B < w.heap.size := let ⟨_, h, _⟩ := h; h.lt
theorem MapM.keep {w w' : World} {B cap : Nat} {M : Nat → Option Nat} (h : MapM w B cap M) (hb : w'.heap[B]? = w.heap[B]?) : MapM w' B cap M := by
  obtain ⟨D, ⟨es, clock, h1, h2⟩, hD⟩ := h
  exact ⟨D, ⟨es, clock, hb.trans h1, h2⟩, hD⟩
theorem MapM.below {w w' : World} {B cap : Nat} {M : Nat → Option Nat} (h : MapM w B cap M) (hb : Below w.heap.size w w') : MapM w' B cap M := h.keep (hb.block B h.lt)
/-- how many of the first nodes are not known -/
def unk (N : Nat) (M : Nat → Option Nat) : Nat := (List.range N).countP fun n => (M n).isNone
theorem unk_le (N : Nat) (M : Nat → Option Nat) : unk N M ≤ N := by have := List.countP_le_length (p := fun n => (M n).isNone) (l := List.range N); simpa [unk] using this
theorem unk_mono {N : Nat} {M M' : Nat → Option Nat} (h : ∀ n v, M n = some v → M' n = some v) : unk N M' ≤ unk N M := by
  unfold unk
  refine List.countP_mono_left fun n _ hn => ?_
  cases hM : M n with
  | none => rfl
  | some v => rw [h n v hM] at hn; cases hn
theorem unk_upd {M : Nat → Option Nat} {n v : Nat} (hn : M n = none) : ∀ N, n < N → unk N (Cut.upd M n v) + 1 ≤ unk N M
  | 0, h => by omega
  | N + 1, h => by
    unfold unk
    rw [List.range_succ, List.countP_append, List.countP_append]
    by_cases e : n = N
    · subst e
      have h1 : ((List.range n).countP fun m => (Cut.upd M n v m).isNone) ≤ ((List.range n).countP fun m => (M m).isNone) := List.countP_mono_left fun m hm hx => by
        have : m ≠ n := by have := List.mem_range.1 hm; omega
        simpa [Cut.upd, this] using hx
      have h2 : ([n].countP fun m => (Cut.upd M n v m).isNone) = 0 := by simp [Cut.upd]
      have h3 : ([n].countP fun m => (M m).isNone) = 1 := by simp [hn]
      omega
    · have ih := unk_upd (v := v) hn N (by omega)
      unfold unk at ih
      have h2 : ([N].countP fun m => (Cut.upd M n v m).isNone) = ([N].countP fun m => (M m).isNone) := by simp [Cut.upd, Ne.symm e]
      omega
theorem lit_lt {x a : Nat} (hx : x < 18446744073709551616) : Cut.lit x a < 18446744073709551616 := by
  unfold Cut.lit
  split
  · exact xor_ones_lt x hx
  · exact hx
theorem and_lt {x y : Nat} (hx : x < 18446744073709551616) : x &&& y < 18446744073709551616 := Nat.lt_of_le_of_lt Nat.and_le_left hx
theorem ones_and {x : Nat} (hx : x < 18446744073709551616) : Cut.ones &&& x = x := by
  have e : Cut.ones = 2 ^ 64 - 1 := by decide
  rw [Nat.and_comm, e, Nat.and_two_pow_sub_one_eq_mod, Nat.mod_eq_of_lt hx]
theorem tab_lt {K : Nat → Option Nat} {F : Nat} {ands : List (Nat × Nat)} (hK : ∀ n v, K n = some v → v < 18446744073709551616) : ∀ n v, Cut.tab K F ands n = some v → v < 18446744073709551616 := by
  intro n
  induction n using Nat.strongRecOn with
  | ind n ih =>
    intro v h
    cases hk : K n with
    | some u => rw [Cut.tab_known hk] at h; cases h; exact hK n _ hk
    | none =>
      by_cases hn : n < F
      · rw [Cut.tab_low hk hn] at h; cases h
      · rw [Cut.tab, hk] at h
        simp only [hn, if_false] at h
        cases hg : ands[n - F]? with
        | none => rw [hg] at h; cases h
        | some p =>
          obtain ⟨a, b⟩ := p
          rw [hg] at h
          by_cases hab : a / 2 < n ∧ b / 2 < n
          · simp only [hab, and_self, dite_true] at h
            cases ha : Cut.tab K F ands (a / 2) with
            | none => rw [ha] at h; cases h
            | some x =>
              rw [ha] at h
              cases hb : Cut.tab K F ands (b / 2) with
              | none => rw [hb] at h; cases h
              | some y =>
                rw [hb] at h
                cases h
                exact and_lt (lit_lt (ih _ hab.1 x ha))
          · simp only [hab, dite_false] at h; cases h
theorem MapM.update {w : World} {B cap : Nat} {M : Nat → Option Nat} (h : MapM w B cap M) (hc : cap < maxLen) (n v : Nat) (hn : n < 9223372036854775808) (hv : v < 18446744073709551616) :
    ∃ w', (Instr.mapUpdate 125 (.map (some B)) (.int .i64 (n : Int)) (.int .u64 (v : Int))).run Tryz.prog w = .ok () w' ∧ MapM w' B (cap + 1) (Cut.upd M n v) ∧ w.grownBy w' (some B) := by
  obtain ⟨D, hown, hD⟩ := h
  have hwn : (Lit.int .i64 (n : Int)).wf = true := WalkArith.wf_i64 (by omega)
  have hwv : (Lit.int .u64 (v : Int)).wf = true := WalkArith.wf_u64 (by omega)
  have hk : keyOf Tryz.prog 3 (.int .i64 (n : Int)) = some (.int .i64 (n : Int)) := keyOf_int_mk Tryz.underlying3 hwn
  obtain ⟨w', h1, h2, h3⟩ := hown.update key_int Tryz.underlying125 hc hk (plainElem_int Tryz.underlying39 hwv)
  exact ⟨w', h1, ⟨_, h2, hD.put n v⟩, h3⟩
theorem MapM.made (w : World) : MapM (w.alloc (.map #[] 0)) w.heap.size 0 (fun _ => none) := ⟨_, World.ownsMap_made _ _ _ _, Holds.start⟩
end Go.Proofs.YtaajnmggbhnndaaGreatDoor

namespace Go.Proofs.YtaajnmggbhnndaaGreatDoor
open Go.RowKit Go.Maps
set_option linter.unusedVariables false
set_option linter.unusedSimpArgs false

/-- the cone's struct -/
def CONE (G : AG) (B b : Nat) (w : World) : Prop := Blk w b 127 #[.int .i64 G.I, .slice G.AF G.fl.length G.cF, .slice G.AA G.an.length G.cA, .slice G.AO G.ou.length G.cO, .int .i64 (G.fst : Int), .map (some B)]
/-- what node leaves, o being what it tells -/
structure NodeSt (T : Nat → Option Nat) (N B cap n : Nat) (M : Nat → Option Nat) (w w' : World) (cap' : Nat) (M' : Nat → Option Nat) : Prop where
  chg : Chg w w' fun k => k = B
  map : MapM w' B cap' M'
  more : ∀ x v, M x = some v → M' x = some v
  true_ : ∀ x v, M' x = some v → T x = some v
  same : ∀ x, n ≤ x → M' x = M x
  room : cap' + unk N M' ≤ cap + unk N M
def NodeOut (T : Nat → Option Nat) (N B cap n : Nat) (M : Nat → Option Nat) (w : World) (r : Ending) (w' : World) : Prop :=
  r = .returned (.tuple #[.int .u64 (optV (T n) : Int), .bool (T n).isSome]) ∧ ∃ cap' M', NodeSt T N B cap (n + 1) M w w' cap' M'
theorem Chg.refl (w : World) (X : Nat → Prop) : Chg w w X := ⟨rfl, rfl, rfl, Nat.le_refl _, fun _ _ _ => rfl⟩
theorem Chg.mono' {w w' : World} {X Y : Nat → Prop} (h : Chg w w' X) (hx : ∀ k, X k → Y k) : Chg w w' Y := ⟨h.os, h.tape, h.output, h.size, fun k hk hy => h.block k hk fun hX => hy (hx k hX)⟩
theorem Chg.of_below {w w' : World} (h : Below w.heap.size w w') (X : Nat → Prop) : Chg w w' X := ⟨h.os, h.tape, h.output, h.size, fun k hk _ => h.block k hk⟩
theorem NodeSt.refl {T : Nat → Option Nat} {N B cap n : Nat} {M : Nat → Option Nat} {w : World} (h : MapM w B cap M) (ht : ∀ x v, M x = some v → T x = some v) : NodeSt T N B cap n M w w cap M :=
  ⟨Chg.refl _ _, h, fun _ _ h => h, ht, fun _ _ => rfl, Nat.le_refl _⟩
theorem NodeSt.below {T : Nat → Option Nat} {N B cap n : Nat} {M : Nat → Option Nat} {w w' w'' : World} {cap' : Nat} {M' : Nat → Option Nat} (h : NodeSt T N B cap n M w w' cap' M') (hb : Below w'.heap.size w' w'') : NodeSt T N B cap n M w w'' cap' M' :=
  ⟨(h.chg.trans (Chg.of_below hb fun k => k = B)).mono' (by simp), h.map.below hb, h.more, h.true_, h.same, h.room⟩
theorem NodeSt.trans {T : Nat → Option Nat} {N B cap n m : Nat} {M : Nat → Option Nat} {w w' w'' : World} {cap' cap'' : Nat} {M' M'' : Nat → Option Nat} (h : NodeSt T N B cap n M w w' cap' M') (k : NodeSt T N B cap' m M' w' w'' cap'' M'') (hm : m ≤ n) : NodeSt T N B cap n M w w'' cap'' M'' :=
  ⟨(h.chg.trans k.chg).mono' (by simp), k.map, fun x v hx => k.more x v (h.more x v hx), k.true_, fun x hx => (k.same x (by omega)).trans (h.same x hx), Nat.le_trans k.room h.room⟩
theorem NodeSt.weak {T : Nat → Option Nat} {N B cap n m : Nat} {M : Nat → Option Nat} {w w' : World} {cap' : Nat} {M' : Nat → Option Nat} (h : NodeSt T N B cap n M w w' cap' M') (hm : n ≤ m) : NodeSt T N B cap m M w w' cap' M' :=
  ⟨h.chg, h.map, h.more, h.true_, fun x hx => h.same x (by omega), h.room⟩
theorem NodeSt.put {T : Nat → Option Nat} {N B cap n v : Nat} {M : Nat → Option Nat} {w w' w'' : World} {cap' : Nat} {M' : Nat → Option Nat} (h : NodeSt T N B cap n M w w' cap' M') (hM : M n = none) (hn : n < N) (ht : T n = some v) (hc : Chg w' w'' fun k => k = B) (hm : MapM w'' B (cap' + 1) (Cut.upd M' n v)) : NodeSt T N B cap (n + 1) M w w'' (cap' + 1) (Cut.upd M' n v) := by
  have hMn : M' n = none := (h.same n (Nat.le_refl _)).trans hM
  have hu := unk_upd (v := v) hMn N hn
  have := h.room
  refine ⟨(h.chg.trans hc).mono' (by simp), hm, fun x u hx => ?_, fun x u hx => ?_, fun x hx => ?_, by omega⟩
  · unfold Cut.upd
    by_cases e : x = n
    · subst e; rw [hM] at hx; cases hx
    · rw [if_neg e]; exact h.more x u hx
  · unfold Cut.upd at hx
    by_cases e : x = n
    · subst e; rw [if_pos rfl] at hx; cases hx; exact ht
    · rw [if_neg e] at hx; exact h.true_ x u hx
  · unfold Cut.upd
    rw [if_neg (by omega)]
    exact h.same x (by omega)
theorem not_max (u : Nat) (hu : u < 18446744073709551616) : bits .xor .u64 IntKind.u64.max (u : Int) = ((u ^^^ Cut.ones : Nat) : Int) := by
  have e : IntKind.u64.max = 18446744073709551615 := by decide
  rw [e]
  exact u64_not_nat u hu
def accN (x y : Option Nat) (a b : Nat) : Nat → Nat
  | 0 => Cut.ones
  | 1 => Cut.ones &&& Cut.lit (optV x) a
  | _ => (Cut.ones &&& Cut.lit (optV x) a) &&& Cut.lit (optV y) b
theorem not_if (u : Nat) (hu : u < 18446744073709551616) : bits .xor .u64 (if IntKind.u64.signed = true then -1 else IntKind.u64.max) (u : Int) = ((u ^^^ Cut.ones : Nat) : Int) := by
  have e : IntKind.u64.signed = false := rfl
  rw [e, if_neg (by decide)]
  exact not_max u hu
theorem accN_1 (u : Nat) (y : Option Nat) (a b : Nat) : accN (some u) y a b 1 = accN (some u) y a b 0 &&& Cut.lit u a := by simp only [accN, optV, Option.getD_some]
theorem accN_2 (x : Option Nat) (u : Nat) (a b : Nat) : accN x (some u) a b 2 = accN x (some u) a b 1 &&& Cut.lit u b := by simp only [accN, optV, Option.getD_some]
theorem accN_all (u v a b : Nat) (hu : u < 18446744073709551616) : accN (some u) (some v) a b 2 = Cut.lit u a &&& Cut.lit v b := by
  simp only [accN, optV, Option.getD_some]
  rw [ones_and (lit_lt hu)]
theorem accN_lt (x y : Option Nat) (a b : Nat) : ∀ j, accN x y a b j < 18446744073709551616
  | 0 => by simp only [accN]; decide
  | 1 => by simp only [accN]; exact and_lt (by decide)
  | j + 2 => by simp only [accN]; exact and_lt (and_lt (by decide))
theorem index_pair0 (a b : Int) (w : World) : (Instr.index 38 (.agg #[.int .i64 a, .int .i64 b]) (.int .i64 0)).run Tryz.prog w = .ok (.int .i64 a) w := by kernel_rfl
theorem index_pair1 (a b : Int) (w : World) : (Instr.index 38 (.agg #[.int .i64 a, .int .i64 b]) (.int .i64 1)).run Tryz.prog w = .ok (.int .i64 b) w := by kernel_rfl
set_option maxRecDepth 100000 in
set_option maxHeartbeats 4000000 in
theorem node_any (G : AG) (hok : G.ok) (hf : G.fit) (T : Nat → Option Nat) (hT : ∀ n v, T n = some v → v < 18446744073709551616) (K : Nat → Option Nat) (hTK : T = Cut.tab K G.fst G.ands) (w0 : World) (hin : G.In w0) (b B : Nat) (hbB : b ≠ B) (hB0 : w0.heap.size ≤ B) : ∀ n, n < G.cn → ∀ (cap : Nat) (M : Nat → Option Nat) (w : World), Below w0.heap.size w0 w → CONE G B b w → MapM w B cap M → (∀ n v, K n = some v → M n = some v) → (∀ x v, M x = some v → T x = some v) → cap + unk G.cn M ≤ 1000000 →
    Calls Tryz.prog 63 #[.pointer (some ⟨b, 0, none⟩), .int .i64 (n : Int)] w (NodeOut T G.cn B cap n M w) := by
  intro n
  induction n using Nat.strongRecOn with
  | ind n ih =>
  intro hn cap M w hw0 hcone hmap hKM hMT hcap
  unfold NodeOut
  have hcn1 : G.cn ≤ 3001 := by have := hf.i; have := hf.f; have := hf.a; have := hok.1; unfold AG.cn AG.fst; omega
  have hFn : G.fst ≤ G.cn := by unfold AG.cn; omega
  have HC := Lib.hid (show Blk w b 127 #[.int .i64 G.I, .slice G.AF G.fl.length G.cF, .slice G.AA G.an.length G.cA, .slice G.AO G.ou.length G.cO, .int .i64 (G.fst : Int), .map (some B)] from hcone)
  have HM := Lib.hid hmap
  have hz := HC.out.lt
  have c5 := HC.out.cell 5
  have hwfk : (Lit.int .i64 (n : Int)).wf = true := WalkArith.wf_i64 (by omega)
  have hkey : keyOf Tryz.prog 3 (.int .i64 (n : Int)) = some (.int .i64 (n : Int)) := keyOf_int_mk Tryz.underlying3 hwfk
  have HK := Lib.hid hkey
  obtain ⟨D, hown, hD⟩ := id hmap
  have HOWN := Lib.hid hown
  have hhas := hD.has n
  clear hwfk hkey hown hmap hcone
  cases hMn : M n with
  | some v =>
    rw [hMn] at hhas
    have hh : Maps.has D (.int .i64 (n : Int)) = true := hhas
    have hTn := hMT n v hMn
    have hat := hD.at_ n v hMn (.lit (.int .u64 0))
    have HAT := Lib.hid hat
    rw [hTn]
    have HMT := Lib.hid hMT
    clear hat hhas hMn hTn hD ih hMT hTK hKM
    go_enter Tryz.func63, Tryz.ntmps63
    go_wp2_with (at_lookup; refine wpList_lookup_own_ok_int _ rfl _ _ 125 rfl 3 39 .u64 key_int Tryz.underlying125 Tryz.underlying39 (zero_u64 _) B cap D rfl HOWN.out _ _ rfl HK.out ?_; intro c hat hwc)
    have hcv : c = (v : Int) := by have := hat.symm.trans HAT.out; simpa using this
    subst hcv
    go_ret2
    exact ⟨rfl, cap, M, NodeSt.refl HM.out HMT.out⟩
  | none =>
    rw [hMn] at hhas
    have hh : Maps.has D (.int .i64 (n : Int)) = false := hhas
    have hKn : K n = none := by
      cases hk : K n with
      | none => rfl
      | some v => rw [hKM n v hk] at hMn; cases hMn
    have c4 := HC.out.cell 4
    by_cases hlow : n < G.fst
    · have hTn : T n = none := by rw [hTK]; exact Cut.tab_low hKn hlow
      rw [hTn]
      have HMT := Lib.hid hMT
      have hlow' : (n : Int) < (G.fst : Int) := by omega
      clear hhas hMn hKn hTn hD ih hMT hTK hKM
      go_enter Tryz.func63, Tryz.ntmps63
      go_wp2_with (at_lookup; refine wpList_lookup_own_ok_int _ rfl _ _ 125 rfl 3 39 .u64 key_int Tryz.underlying125 Tryz.underlying39 (zero_u64 _) B cap D rfl HOWN.out _ _ rfl HK.out ?_; intro c hat hwc)
      go_ret2
      exact ⟨rfl, cap, M, NodeSt.refl HM.out HMT.out⟩
    obtain ⟨i, hi⟩ : ∃ i, n - G.fst = i := ⟨_, rfl⟩
    have hia : i < G.an.length := by have : G.cn = G.fst + G.an.length := rfl; omega
    have hni : G.fst + i = n := by omega
    have hnF : (n : Int) - (G.fst : Int) = (i : Int) := by omega
    have hlow' : ¬ (n : Int) < (G.fst : Int) := by omega
    have hwi : IntKind.i64.wrap (i : Int) = (i : Int) := IntWalk.i64_in _ (by omega)
    obtain ⟨a, b', hg, hgs, ha, hb, ha3, hb3⟩ := hok.gate hia
    rw [hni] at ha hb
    have hTn : T n = match T (a / 2) with
      | none => none
      | some x => match T (b' / 2) with
        | none => none
        | some y => some (Cut.lit x a &&& Cut.lit y b') := by
      rw [hTK]
      exact Cut.tab_gate hKn hlow (by rw [hi]; exact hgs) ha hb
    obtain ⟨pa, hPA, hpb, e0, e1⟩ := hin.an.two (pc_get G.an i hia).1 (pc_get G.an i hia).2
    rw [hg] at e0 e1
    obtain ⟨ga, hga⟩ : ∃ p, pa.add (i * 2) = p := ⟨_, rfl⟩
    have hgab : ga.block < w0.heap.size := by rw [← hga, add_block]; exact hpb
    rw [hga] at e0 e1
    have e2 : w.cell? ga = some (.int .i64 (a : Int)) := (hw0.cell hgab).trans e0
    have e3 : w.cell? ⟨ga.block, ga.off + 1, none⟩ = some (.int .i64 (b' : Int)) := (hw0.cell (p := ⟨ga.block, ga.off + 1, none⟩) hgab).trans e1
    have c2 := HC.out.cell 2
    rw [hPA] at c2
    have hfst : G.fst ≤ 2001 := by unfold AG.fst at *; have := hf.i; have := hf.f; have := hok.1; omega
    have hia' : (i : Int) < (G.an.length : Int) := by omega
    have HST := Lib.hid (NodeSt.refl (N := G.cn) (n := n) HM.out hMT)
    have HKM := Lib.hid hKM
    have HIH := Lib.hid ih
    have HW0 := Lib.hid hw0
    have HTN := Lib.hid hTn
    have HMN := Lib.hid hMn
    have hT64 := Lib.hid hT
    have HANL := Lib.hid (show G.an.length ≤ 1000 from hf.a)
    have hanl := hf.a
    obtain ⟨NA, hNA⟩ : ∃ N, G.an.length = N := ⟨_, rfl⟩
    rw [hNA] at hia' c2 hanl hia
    clear hhas hMn hKn hD ih hMT hTK hKM hi hg hgs hpb e0 e1 hPA hTn hw0 hT
    go_enter Tryz.func63, Tryz.ntmps63
    go_wp2_with (at_lookup; refine wpList_lookup_own_ok_int _ rfl _ _ 125 rfl 3 39 .u64 key_int Tryz.underlying125 Tryz.underlying39 (zero_u64 _) B cap D rfl HOWN.out _ _ rfl HK.out ?_; intro c hat hwc)
    refine wp_region_still_in (by kernel_rfl) (by kernel_rfl) fun St9 ne9 V9 hV9 hS9 => ?_
    have qc2 := still_cell hV9 c2
    have qc4 := still_cell hV9 c4
    have qe2 := still_cell hV9 e2
    have qe3 := still_cell hV9 e3
    repeat (first | go_big_quiet_step (fail) | quiet_step (fail))
    refine wpQuiet_nil ?_
    intro _ hw9
    obtain ⟨s9, rfl⟩ := hw9
    have hb9 := hV9 s9
    clear qc2 qc4 qe2 qe3 hS9
    generalize V9 s9 = w9 at hb9 ⊢
    clear hV9 s9 V9 ne9 St9
    obtain ⟨a2, ha2⟩ : ∃ d, a / 2 = d := ⟨_, rfl⟩
    obtain ⟨b2, hb2⟩ : ∃ d, b' / 2 = d := ⟨_, rfl⟩
    rw [ha2] at HTN ha
    rw [hb2] at HTN hb
    have hae : (a : Int) / 2 = (a2 : Int) := by omega
    have hbe : (b' : Int) / 2 = (b2 : Int) := by omega
    obtain ⟨ox, hox⟩ : ∃ o, T a2 = o := ⟨_, rfl⟩
    obtain ⟨oy, hoy⟩ : ∃ o, T b2 = o := ⟨_, rfl⟩
    rw [hox, hoy] at HTN
    have HOX := Lib.hid hox
    have HOY := Lib.hid hoy
    have hox64 : optV ox < 18446744073709551616 := by
      cases ox with
      | none => decide
      | some v => exact hT64.out a2 v hox
    have hoy64 : optV oy < 18446744073709551616 := by
      cases oy with
      | none => decide
      | some v => exact hT64.out b2 v hoy
    have HACC := Lib.hid (accN_lt ox oy a b')
    have HST9 := Lib.hid (HST.out.below hb9)
    have HC9 := Lib.hid (show CONE G B b w9 from HC.out.keep hb9)
    have HB9 := Lib.hid (below_then HW0.out hb9)
    clear ha2 hb2 hox hoy hox64 hoy64 hb9 c2 c4 c5 e2 e3 hia hia' hnF hwi hga hgab hat hwc hh hNA hanl hz HM HC
    go_wp2_with fail
    go_loopw [8, 43] (fun v8 v43 wx => ∃ (j cap' : Nat) (M' : Nat → Option Nat), j ≤ 2 ∧ v43 = .int .i64 (j : Int) ∧ v8 = .int .u64 (accN ox oy a b' j : Int) ∧ (1 ≤ j → ox.isSome = true) ∧ (2 ≤ j → oy.isSome = true) ∧ NodeSt T G.cn B cap n M w wx cap' M' ∧ CONE G B b wx ∧ Below w0.heap.size w0 wx) (fun _ v43 _ => 2 - (intOf v43).toNat)
    case atStart => exact ⟨0, cap, M, by omega, rfl, rfl, fun h => absurd h (by omega), fun h => absurd h (by omega), HST9.out, HC9.out, HB9.out⟩
    case round =>
      obtain ⟨j, cap', M', hj, rfl, rfl, hx1, hx2, hS, hC, hB⟩ := hrel
      have HS5 := Lib.hid hS
      have HC5 := Lib.hid hC
      have HB5 := Lib.hid hB
      have HX1 := Lib.hid hx1
      have HX2 := Lib.hid hx2
      clear hS hC hB hx1 hx2 HST9 HC9 HB9
      rcases (show j = 0 ∨ j = 1 ∨ j = 2 by omega) with rfl | rfl | rfl
      · skip
        have hst := HS5.out
        have hroom : cap' + unk G.cn M' ≤ 1000000 := Nat.le_trans hst.room hcap
        have hkm : ∀ n v, K n = some v → M' n = some v := fun n v h => hst.more n v (HKM.out n v h)
        have HNODE := Lib.hid (HIH.out a2 ha (by omega) cap' M' wr HB5.out HC5.out hst.map hkm hst.true_ hroom)
        clear hst hroom hkm
        have hix0 := index_pair0 (a : Int) (b' : Int)
        have hix1 := index_pair1 (a : Int) (b' : Int)
        go_wp2_with fail
        clear hix0 hix1
        refine HNODE.out.mono ?_
        rintro e w6 ⟨rfl, cap6, M6, hS6⟩
        have S6 := Lib.hid (HS5.out.trans hS6 (by omega))
        have C6 := Lib.hid (show CONE G B b w6 from hS6.chg.blk HC5.out (by exact hbB))
        have B6 := Lib.hid (hS6.chg.below HB5.out HB5.out.size (fun k hk => by rw [hk]; exact hB0))
        clear hS6 HNODE
        rw [HOX.out]
        cases ho : ox with
        | none =>
          have hTn : T n = none := by rw [HTN.out]; rw [ho]
          have HTNN := Lib.hid hTn
          simp only [optV, optE, Option.getD_none, Option.isSome_none]
          clear hTn
          go_wp2_with fail
          go_ret2
          exact ⟨by rw [HTNN.out]; rfl, cap6, M6, S6.out.weak (by omega)⟩
        | some u =>
          have hu64 : u < 18446744073709551616 := hT64.out a2 u (HOX.out.trans ho)
          have hnot : bits .xor .u64 (if IntKind.u64.signed = true then -1 else IntKind.u64.max) (u : Int) = ((u ^^^ Cut.ones : Nat) : Int) := not_if u hu64
          have hacc : accN ox oy a b' 1 = accN ox oy a b' 0 &&& Cut.lit u a := by rw [ho]; exact accN_1 u oy a b'
          have hacc64 : accN ox oy a b' 0 < 18446744073709551616 := HACC.out 0
          have HACN := Lib.hid hacc
          have HO2 := Lib.hid (show (ox).isSome = true by rw [ho]; rfl)
          have hand1 := and1_i64 a (by omega)
          have hlit : Cut.lit u a < 18446744073709551616 := lit_lt hu64
          have HLIT := Lib.hid (show Cut.lit u a = if a % 2 = 1 then u ^^^ Cut.ones else u from rfl)
          simp only [optV, optE, Option.getD_some, Option.isSome_some]
          clear hacc
          have hge : accN (some u) oy a b' 0 = accN ox oy a b' 0 := by rw [ho]
          rw [hge]
          clear hge
          generalize accN ox oy a b' 0 = acc at hacc64 HACN ⊢
          have HAND := u64_and_nat acc (Cut.lit u a) hacc64 hlit
          by_cases hodd : a % 2 = 1
          · rw [hodd] at hand1
            have hl : Cut.lit u a = u ^^^ Cut.ones := by rw [HLIT.out, if_pos hodd]
            rw [hl] at HAND HACN
            clear HLIT hl hlit hodd
            generalize u ^^^ Cut.ones = z at hnot HAND HACN
            go_wp2_with fail
            go_roundw
            case rel => exact ⟨1, cap6, M6, by omega, by go_num, by rw [HACN.out], fun _ => HO2.out, fun h => absurd h (by omega), S6.out, C6.out, B6.out⟩
            case measure => simp [intOf]
          · have h0 : a % 2 = 0 := by omega
            rw [h0] at hand1
            have hl : Cut.lit u a = u := by rw [HLIT.out, if_neg hodd]
            rw [hl] at HAND HACN
            clear HLIT hl hlit hodd h0
            go_wp2_with fail
            go_roundw
            case rel => exact ⟨1, cap6, M6, by omega, by go_num, by rw [HACN.out], fun _ => HO2.out, fun h => absurd h (by omega), S6.out, C6.out, B6.out⟩
            case measure => simp [intOf]
      · obtain ⟨u1, hu1⟩ := Option.isSome_iff_exists.1 (HX1.out (Nat.le_refl _))
        have HU1 := Lib.hid hu1
        clear hu1
        have hst := HS5.out
        have hroom : cap' + unk G.cn M' ≤ 1000000 := Nat.le_trans hst.room hcap
        have hkm : ∀ n v, K n = some v → M' n = some v := fun n v h => hst.more n v (HKM.out n v h)
        have HNODE := Lib.hid (HIH.out b2 hb (by omega) cap' M' wr HB5.out HC5.out hst.map hkm hst.true_ hroom)
        clear hst hroom hkm
        have hix0 := index_pair0 (a : Int) (b' : Int)
        have hix1 := index_pair1 (a : Int) (b' : Int)
        go_wp2_with fail
        clear hix0 hix1
        refine HNODE.out.mono ?_
        rintro e w6 ⟨rfl, cap6, M6, hS6⟩
        have S6 := Lib.hid (HS5.out.trans hS6 (by omega))
        have C6 := Lib.hid (show CONE G B b w6 from hS6.chg.blk HC5.out (by exact hbB))
        have B6 := Lib.hid (hS6.chg.below HB5.out HB5.out.size (fun k hk => by rw [hk]; exact hB0))
        clear hS6 HNODE
        rw [HOY.out]
        cases ho : oy with
        | none =>
          have hTn : T n = none := by rw [HTN.out]; rw [HU1.out]; rw [ho]
          have HTNN := Lib.hid hTn
          simp only [optV, optE, Option.getD_none, Option.isSome_none]
          clear hTn
          go_wp2_with fail
          go_ret2
          exact ⟨by rw [HTNN.out]; rfl, cap6, M6, S6.out.weak (by omega)⟩
        | some u =>
          have hu64 : u < 18446744073709551616 := hT64.out b2 u (HOY.out.trans ho)
          have hnot : bits .xor .u64 (if IntKind.u64.signed = true then -1 else IntKind.u64.max) (u : Int) = ((u ^^^ Cut.ones : Nat) : Int) := not_if u hu64
          have hacc : accN ox oy a b' 2 = accN ox oy a b' 1 &&& Cut.lit u b' := by rw [ho]; exact accN_2 ox u a b'
          have hacc64 : accN ox oy a b' 1 < 18446744073709551616 := HACC.out 1
          have HACN := Lib.hid hacc
          have HO2 := Lib.hid (show (oy).isSome = true by rw [ho]; rfl)
          have hand1 := and1_i64 b' (by omega)
          have hlit : Cut.lit u b' < 18446744073709551616 := lit_lt hu64
          have HLIT := Lib.hid (show Cut.lit u b' = if b' % 2 = 1 then u ^^^ Cut.ones else u from rfl)
          simp only [optV, optE, Option.getD_some, Option.isSome_some]
          clear hacc
          have hge : accN ox (some u) a b' 1 = accN ox oy a b' 1 := by rw [ho]
          rw [hge]
          clear hge
          generalize accN ox oy a b' 1 = acc at hacc64 HACN ⊢
          have HAND := u64_and_nat acc (Cut.lit u b') hacc64 hlit
          by_cases hodd : b' % 2 = 1
          · rw [hodd] at hand1
            have hl : Cut.lit u b' = u ^^^ Cut.ones := by rw [HLIT.out, if_pos hodd]
            rw [hl] at HAND HACN
            clear HLIT hl hlit hodd
            generalize u ^^^ Cut.ones = z at hnot HAND HACN
            go_wp2_with fail
            go_roundw
            case rel => exact ⟨2, cap6, M6, by omega, by go_num, by rw [HACN.out], fun _ => HX1.out (Nat.le_refl _), fun _ => HO2.out, S6.out, C6.out, B6.out⟩
            case measure => simp [intOf]
          · have h0 : b' % 2 = 0 := by omega
            rw [h0] at hand1
            have hl : Cut.lit u b' = u := by rw [HLIT.out, if_neg hodd]
            rw [hl] at HAND HACN
            clear HLIT hl hlit hodd h0
            go_wp2_with fail
            go_roundw
            case rel => exact ⟨2, cap6, M6, by omega, by go_num, by rw [HACN.out], fun _ => HX1.out (Nat.le_refl _), fun _ => HO2.out, S6.out, C6.out, B6.out⟩
            case measure => simp [intOf]
      · obtain ⟨u, hu⟩ := Option.isSome_iff_exists.1 (HX1.out (by omega))
        obtain ⟨v, hv⟩ := Option.isSome_iff_exists.1 (HX2.out (by omega))
        have hTn : T n = some (Cut.lit u a &&& Cut.lit v b') := by rw [HTN.out, hu, hv]
        have hu64 := hT64.out a2 u (HOX.out.trans hu)
        have hacc : accN ox oy a b' 2 = Cut.lit u a &&& Cut.lit v b' := by
          rw [hu, hv]; exact accN_all u v a b' hu64
        rw [hacc]
        have hres64 : Cut.lit u a &&& Cut.lit v b' < 18446744073709551616 := and_lt (lit_lt hu64)
        generalize Cut.lit u a &&& Cut.lit v b' = res at hTn hres64
        have HTR := Lib.hid hTn
        have hmap5 := HS5.out.map
        have hcap5 : cap' < maxLen := by have := HS5.out.room; unfold maxLen; omega
        obtain ⟨w7, hmu, hm7, hg7⟩ := hmap5.update hcap5 n res (by omega) hres64
        have HM7 := Lib.hid hm7
        have HG7 := Lib.hid hg7
        have c5 := HC5.out.cell 5
        have hchg : Chg wr w7 fun k => k = B := (Chg.of_grown HG7.out).mono' (fun k hk => by simpa using hk)
        have H9 := Lib.hid (HS5.out.put HMN.out hn HTR.out hchg HM7.out)
        clear hu hv hTn hu64 hacc hmap5 hm7 hg7 hchg
        go_wp2_with fail
        go_ret2
        have HRES : (Value.tuple #[.int .u64 (optV (T n) : Int), .bool (T n).isSome]) = .tuple #[.int .u64 (res : Int), .bool true] := by rw [HTR.out]; rfl
        rw [HRES]
        exact ⟨rfl, _, _, H9.out⟩
end Go.Proofs.YtaajnmggbhnndaaGreatDoor

namespace Go.Proofs.YtaajnmggbhnndaaGreatDoor
open Go.RowKit Go.Maps
set_option linter.unusedVariables false
set_option linter.unusedSimpArgs false

/-- the package's row of columns, as it was laid -/
def COLS (w : World) : Prop := 0 < w.heap.size ∧ ∀ i, i < 6 → w.cell? ⟨0, i, none⟩ = some (.int .u64 (Cut.col i : Int))
theorem COLS.below {w w' : World} (h : COLS w) (hb : Below w.heap.size w w') : COLS w' := ⟨Nat.lt_of_lt_of_le h.1 hb.size, fun i hi => (hb.cell (p := ⟨0, i, none⟩) h.1).trans (h.2 i hi)⟩
theorem col_lt (i : Nat) : Cut.col i < 18446744073709551616 := by
  unfold Cut.col
  split <;> decide
theorem known_lt (l : List Int) : ∀ k n v, Cut.knownTo l Cut.col k n = some v → v < 18446744073709551616
  | 0, n, v, h => by
    simp only [Cut.knownTo] at h
    split at h
    · cases h; omega
    · cases h
  | k + 1, n, v, h => by
    simp only [Cut.knownTo, Cut.upd] at h
    split at h
    · cases h; exact col_lt _
    · exact known_lt l k n v h
theorem start_upd (l : List Int) : Cut.upd (fun _ => none) 0 0 = Cut.knownTo l Cut.col 0 := by
  funext n
  simp [Cut.upd, Cut.knownTo]
theorem tabG_lt (G : AG) (l : List Int) : ∀ n v, G.tabG l n = some v → v < 18446744073709551616 := tab_lt (fun n v h => known_lt l _ n v h)
theorem table_optV (G : AG) (l : List Int) (n : Nat) : optV (G.table l n) = optV (G.tabG l n) &&& Cut.rows l.length := by
  unfold AG.table optV
  cases G.tabG l n <;> simp
theorem table_isSome (G : AG) (l : List Int) (n : Nat) : (G.table l n).isSome = (G.tabG l n).isSome := by
  unfold AG.table
  cases G.tabG l n <;> rfl
def CTabOut (o : Option Nat) (w : World) (r : Ending) (w' : World) : Prop := r = .returned (.tuple #[.int .u64 (optV o : Int), .bool o.isSome]) ∧ Below w.heap.size w w'
set_option maxRecDepth 100000 in
set_option maxHeartbeats 2000000 in
theorem ctable_any (G : AG) (A : Option Addr) (c : Nat) (l : List Int) (n : Nat) (w : World) (hin : G.In w) (hf : G.fit) (hok : G.ok) (hr : Rd w 1 A l.length c (ints l)) (hl : leavesB G.cnt l = true) (hn : n < G.cn) (hcols : COLS w) :
    Calls Tryz.prog 48 #[.agg #[.int .i64 G.I, .slice G.AF G.fl.length G.cF, .slice G.AA G.an.length G.cA, .slice G.AO G.ou.length G.cO], .int .i64 (n : Int), .slice A l.length c] w (CTabOut (G.table l n) w) := by
  unfold CTabOut
  rw [table_optV, table_isSome]
  have hl6 := leavesB_len hl
  have HNODE := Lib.hid (fun (b B : Nat) (hbB : b ≠ B) (hB0 : w.heap.size ≤ B) (cap : Nat) (W : World) (hW : Below w.heap.size w W) (hC : CONE G B b W) (hM : MapM W B cap (Cut.known l Cut.col)) (hcap : cap ≤ 10) =>
    node_any G hok hf (G.tabG l) (tabG_lt G l) (Cut.known l Cut.col) rfl w hin b B hbB hB0 n hn cap (Cut.known l Cut.col) W hW hC hM (fun _ _ h => h) (fun x v h => Cut.tab_known h) (by have := unk_le G.cn (Cut.known l Cut.col); have : G.cn ≤ 3001 := by { have := hf.i; have := hf.f; have := hf.a; have := hok.1; unfold AG.cn AG.fst; omega }; omega))
  have HROW := Lib.hid (fun (W : World) => rows_any l.length W hl6)
  have hTL : optV (G.tabG l n) < 18446744073709551616 := by
    cases h : G.tabG l n with
    | none => decide
    | some v => exact tabG_lt G l n v h
  have hmem : ∀ i, i < l.length → 1 ≤ l.getD i 0 ∧ l.getD i 0 ≤ 3001 := fun i hi => by
    have h := leavesB_mem hl hi
    have h2 := hf.i; have h3 := hf.f; have h4 := hf.a
    unfold AG.cnt at h
    omega
  have HMEM := Lib.hid hmem
  have hfst : 1 + G.I + (G.fl.length : Int) = (G.fst : Int) := hok.firstN
  have hFle : G.fst ≤ 2001 := by unfold AG.fst; have := hf.i; have := hf.f; have := hok.1; omega
  have HAND := u64_and_nat (optV (G.tabG l n)) (Cut.rows l.length) hTL (Cut.rows_lt _ hl6)
  have HR := Lib.hid hr
  have HCO := Lib.hid hcols
  obtain ⟨o, ho⟩ : ∃ o, G.tabG l n = o := ⟨_, rfl⟩
  have HOO := Lib.hid ho
  rw [ho] at HAND hTL ⊢
  clear ho
  obtain ⟨R, hR⟩ : ∃ R, Cut.rows l.length = R := ⟨_, rfl⟩
  rw [hR] at HAND HROW ⊢
  obtain ⟨AF, hAF⟩ : ∃ A, G.AF = A := ⟨_, rfl⟩
  obtain ⟨AA, hAA⟩ : ∃ A, G.AA = A := ⟨_, rfl⟩
  obtain ⟨AO, hAO⟩ : ∃ A, G.AO = A := ⟨_, rfl⟩
  have hI := hok.1
  have hI2 := hf.i
  have hI3 := hf.f
  clear hR hin hok hr hl hcols hmem hf
  obtain ⟨w2, hmu, hm2, hg2⟩ := (MapM.made (w.alloc (.cells #[.int .i64 G.I, .slice G.AF G.fl.length G.cF, .slice G.AA G.an.length G.cA, .slice G.AO G.ou.length G.cO] 26))).update (by unfold maxLen; omega) 0 0 (by omega) (by omega)
  have B1 := below_then (below_new w (.cells #[.int .i64 G.I, .slice G.AF G.fl.length G.cF, .slice G.AA G.an.length G.cA, .slice G.AO G.ou.length G.cO] 26)) (below_new _ (.map #[] 0))
  have B2 := Lib.hid ((Chg.of_grown hg2).below B1 B1.size (fun k hk => by simp at hk; omega))
  have hm20 : MapM w2 (w.heap.size + 1) 1 (Cut.knownTo l Cut.col 0) := by have h := hm2; rw [World.size_alloc, start_upd l] at h; exact h
  have HM2 := Lib.hid hm20
  rw [World.size_alloc] at hmu
  have hmm := @run_makeMap Tryz.prog
  have hmu0 : (Instr.mapUpdate 125 (.map (some (w.heap.size + 1))) (.int .i64 0) (.int .u64 0)).run Tryz.prog ((w.alloc (.cells #[.int .i64 G.I, .slice G.AF G.fl.length G.cF, .slice G.AA G.an.length G.cA, .slice G.AO G.ou.length G.cO] 26)).alloc (.map #[] 0)) = .ok () w2 := hmu
  have HCONE := Lib.hid (show CONE G (w.heap.size + 1) w2.heap.size (w2.alloc (.cells #[.int .i64 G.I, .slice AF G.fl.length G.cF, .slice AA G.an.length G.cA, .slice AO G.ou.length G.cO, .int .i64 (G.fst : Int), .map (some (w.heap.size + 1))] 127)) from by
    unfold CONE; rw [hAF, hAA, hAO]; exact Blk.made w2 _ _)
  have hz2 : w.heap.size + 2 ≤ w2.heap.size := by have h := hg2.size; simpa using h
  clear hmu hg2 B1 hm2 hm20
  rw [hAF, hAA, hAO] at hmu0 ⊢
  go_enter Tryz.func48, Tryz.ntmps48
  go_wp2_with fail
  go_loopw [27] (fun i wx => ∃ k : Nat, k ≤ l.length ∧ i = .int .i64 (k : Int) ∧ MapM wx (w.heap.size + 1) (k + 1) (Cut.knownTo l Cut.col k) ∧ CONE G (w.heap.size + 1) w2.heap.size wx ∧ Below w.heap.size w wx) (fun i _ => l.length - (intOf i).toNat)
  case atStart => exact ⟨0, by omega, rfl, HM2.out.below (below_new _ _), HCONE.out, below_then B2.out (below_new _ _)⟩
  case round =>
    obtain ⟨k, hk, rfl, hm, hc, hb⟩ := hrel
    have M3 := Lib.hid hm
    have C3 := Lib.hid hc
    have B3 := Lib.hid hb
    clear hm hc hb hmu0 HCONE
    by_cases hlt : k < l.length
    case neg =>
      obtain rfl : k = l.length := by omega
      go_wp2_with fail
      refine (HNODE.out w2.heap.size (w.heap.size + 1) (by omega) (by omega) (l.length + 1) wr B3.out C3.out M3.out (by omega)).mono ?_
      rintro e w6 ⟨rfl, cap6, M6, hS6⟩
      have B6 := Lib.hid (hS6.chg.below B3.out B3.out.size (fun k hk => by omega))
      clear hS6
      rw [HOO.out]
      go_wp2_with (go_at_call 64; refine (HROW.out _).mono ?_; rintro e w7 ⟨rfl, rfl⟩)
      go_ret2
      exact ⟨rfl, B6.out⟩
    have hx0 := HMEM.out k hlt
    obtain ⟨x, hx⟩ : ∃ x : Nat, l.getD k 0 = (x : Int) := ⟨(l.getD k 0).toNat, by omega⟩
    obtain ⟨pa, hA, hab, d0⟩ := (HR.out.later B3.out).int (k := k) hlt
    have c5 := C3.out.cell 5
    have e0 := (HCO.out.below B3.out).2 k (by omega)
    have e1 := (HCO.out.below B3.out).1
    have hlt' : (k : Int) < (l.length : Int) := by omega
    have hlt6 : (k : Int) < 6 := by omega
    rw [hx] at d0 hx0
    subst hA
    clear HM2 HCO B2
    have hm9 : MapM wr.drew (w.heap.size + 1) (k + 1) (Cut.knownTo l Cut.col k) := M3.out.below (below_drewN (Below.refl _ _) 1)
    obtain ⟨w7, hmu, hm7, hg7⟩ := hm9.update (by unfold maxLen; omega) x (Cut.col k) (by omega) (col_lt k)
    have hchg : Chg wr.drew w7 fun q => q = w.heap.size + 1 := (Chg.of_grown hg7).mono' (fun k hk => by simpa using hk)
    have B9 := below_drewN B3.out 1
    have hm8 : MapM w7 (w.heap.size + 1) (k + 2) (Cut.knownTo l Cut.col (k + 1)) := by
      have h := hm7
      simp only [Cut.knownTo, hx, Int.toNat_natCast]
      exact h
    have M7 := Lib.hid hm8
    have B7 := Lib.hid (hchg.below B9 B9.size (fun k hk => by omega))
    have C7 := Lib.hid (show CONE G (w.heap.size + 1) w2.heap.size w7 from hchg.blk (C3.out.below (below_drewN (Below.refl _ _) 1) C3.out.lt) (by omega))
    clear hm9 hm7 hg7 hchg B9 hm8 hx
    go_wp2_with fail
    go_region
    go_wp2_with fail
    go_roundw
    case rel => exact ⟨k + 1, by omega, by go_num, M7.out, C7.out, B7.out⟩
    case measure => simp [intOf]; omega
end Go.Proofs.YtaajnmggbhnndaaGreatDoor

namespace Go.Proofs.YtaajnmggbhnndaaGreatDoor
open Go.RowKit
set_option linter.unusedVariables false
set_option linter.unusedSimpArgs false

end Go.Proofs.YtaajnmggbhnndaaGreatDoor

namespace Go.Proofs.YtaajnmggbhnndaaGreatDoor
open Go.RowKit
set_option linter.unusedVariables false
set_option linter.unusedSimpArgs false

end Go.Proofs.YtaajnmggbhnndaaGreatDoor
