/- filigree/cuts.cone.node. -/
import Derived.Test.YtkhlllbceceikaaDoorMapM
namespace Go.Proofs.YtkhlllbceceikaaDoor
open Go.RowKit Go.Maps
set_option linter.unusedVariables false
set_option linter.unusedSimpArgs false

/-- the cone's struct -/
def CONE (G : AG) (B b : Nat) (w : World) : Prop := Blk w b 87 #[.int .i64 G.I, .slice G.AF G.fl.length G.cF, .slice G.AA G.an.length G.cA, .slice G.AO G.ou.length G.cO, .int .i64 (G.fst : Int), .map (some B)]
/-- what node leaves, o being what it tells -/
structure NodeSt (T : Nat → Option Nat) (N B cap n : Nat) (M : Nat → Option Nat) (w w' : World) (cap' : Nat) (M' : Nat → Option Nat) : Prop where
  chg : Chg w w' fun k => k = B
  map : MapM w' B cap' M'
  more : ∀ x v, M x = some v → M' x = some v
  true_ : ∀ x v, M' x = some v → T x = some v
  same : ∀ x, n ≤ x → M' x = M x
  room : cap' + unk N M' ≤ cap + unk N M
def NodeOut (T : Nat → Option Nat) (N B cap n : Nat) (M : Nat → Option Nat) (w : World) (r : Ending) (w' : World) : Prop :=
  r = .returned (.tuple #[.int .u64 (optV (T n) : Int), .bool (T n).isSome]) ∧ ∃ cap' M', NodeSt T N B cap (n + 1) M w w' cap' M'
theorem Chg.refl (w : World) (X : Nat → Prop) : Chg w w X := ⟨rfl, rfl, rfl, Nat.le_refl _, fun _ _ _ => rfl⟩
theorem Chg.mono' {w w' : World} {X Y : Nat → Prop} (h : Chg w w' X) (hx : ∀ k, X k → Y k) : Chg w w' Y := ⟨h.os, h.tape, h.output, h.size, fun k hk hy => h.block k hk fun hX => hy (hx k hX)⟩
theorem Chg.of_below {w w' : World} (h : Below w.heap.size w w') (X : Nat → Prop) : Chg w w' X := ⟨h.os, h.tape, h.output, h.size, fun k hk _ => h.block k hk⟩
theorem NodeSt.refl {T : Nat → Option Nat} {N B cap n : Nat} {M : Nat → Option Nat} {w : World} (h : MapM w B cap M) (ht : ∀ x v, M x = some v → T x = some v) : NodeSt T N B cap n M w w cap M :=
  ⟨Chg.refl _ _, h, fun _ _ h => h, ht, fun _ _ => rfl, Nat.le_refl _⟩
theorem NodeSt.below {T : Nat → Option Nat} {N B cap n : Nat} {M : Nat → Option Nat} {w w' w'' : World} {cap' : Nat} {M' : Nat → Option Nat} (h : NodeSt T N B cap n M w w' cap' M') (hb : Below w'.heap.size w' w'') : NodeSt T N B cap n M w w'' cap' M' :=
  ⟨(h.chg.trans (Chg.of_below hb fun k => k = B)).mono' (by simp), h.map.below hb, h.more, h.true_, h.same, h.room⟩
theorem NodeSt.trans {T : Nat → Option Nat} {N B cap n m : Nat} {M : Nat → Option Nat} {w w' w'' : World} {cap' cap'' : Nat} {M' M'' : Nat → Option Nat} (h : NodeSt T N B cap n M w w' cap' M') (k : NodeSt T N B cap' m M' w' w'' cap'' M'') (hm : m ≤ n) : NodeSt T N B cap n M w w'' cap'' M'' :=
  ⟨(h.chg.trans k.chg).mono' (by simp), k.map, fun x v hx => k.more x v (h.more x v hx), k.true_, fun x hx => (k.same x (by omega)).trans (h.same x hx), Nat.le_trans k.room h.room⟩
theorem NodeSt.weak {T : Nat → Option Nat} {N B cap n m : Nat} {M : Nat → Option Nat} {w w' : World} {cap' : Nat} {M' : Nat → Option Nat} (h : NodeSt T N B cap n M w w' cap' M') (hm : n ≤ m) : NodeSt T N B cap m M w w' cap' M' :=
  ⟨h.chg, h.map, h.more, h.true_, fun x hx => h.same x (by omega), h.room⟩
theorem NodeSt.put {T : Nat → Option Nat} {N B cap n v : Nat} {M : Nat → Option Nat} {w w' w'' : World} {cap' : Nat} {M' : Nat → Option Nat} (h : NodeSt T N B cap n M w w' cap' M') (hM : M n = none) (hn : n < N) (ht : T n = some v) (hc : Chg w' w'' fun k => k = B) (hm : MapM w'' B (cap' + 1) (Cut.upd M' n v)) : NodeSt T N B cap (n + 1) M w w'' (cap' + 1) (Cut.upd M' n v) := by
  have hMn : M' n = none := (h.same n (Nat.le_refl _)).trans hM
  have hu := unk_upd (v := v) hMn N hn
  have := h.room
  refine ⟨(h.chg.trans hc).mono' (by simp), hm, fun x u hx => ?_, fun x u hx => ?_, fun x hx => ?_, by omega⟩
  · unfold Cut.upd
    by_cases e : x = n
    · subst e; rw [hM] at hx; cases hx
    · rw [if_neg e]; exact h.more x u hx
  · unfold Cut.upd at hx
    by_cases e : x = n
    · subst e; rw [if_pos rfl] at hx; cases hx; exact ht
    · rw [if_neg e] at hx; exact h.true_ x u hx
  · unfold Cut.upd
    rw [if_neg (by omega)]
    exact h.same x (by omega)
theorem not_max (u : Nat) (hu : u < 18446744073709551616) : bits .xor .u64 IntKind.u64.max (u : Int) = ((u ^^^ Cut.ones : Nat) : Int) := by
  have e : IntKind.u64.max = 18446744073709551615 := by decide
  rw [e]
  exact u64_not_nat u hu
def accN (x y : Option Nat) (a b : Nat) : Nat → Nat
  | 0 => Cut.ones
  | 1 => Cut.ones &&& Cut.lit (optV x) a
  | _ => (Cut.ones &&& Cut.lit (optV x) a) &&& Cut.lit (optV y) b
theorem not_if (u : Nat) (hu : u < 18446744073709551616) : bits .xor .u64 (if IntKind.u64.signed = true then -1 else IntKind.u64.max) (u : Int) = ((u ^^^ Cut.ones : Nat) : Int) := by
  have e : IntKind.u64.signed = false := rfl
  rw [e, if_neg (by decide)]
  exact not_max u hu
theorem accN_1 (u : Nat) (y : Option Nat) (a b : Nat) : accN (some u) y a b 1 = accN (some u) y a b 0 &&& Cut.lit u a := by simp only [accN, optV, Option.getD_some]
theorem accN_2 (x : Option Nat) (u : Nat) (a b : Nat) : accN x (some u) a b 2 = accN x (some u) a b 1 &&& Cut.lit u b := by simp only [accN, optV, Option.getD_some]
theorem accN_all (u v a b : Nat) (hu : u < 18446744073709551616) : accN (some u) (some v) a b 2 = Cut.lit u a &&& Cut.lit v b := by
  simp only [accN, optV, Option.getD_some]
  rw [ones_and (lit_lt hu)]
theorem accN_lt (x y : Option Nat) (a b : Nat) : ∀ j, accN x y a b j < 18446744073709551616
  | 0 => by simp only [accN]; decide
  | 1 => by simp only [accN]; exact and_lt (by decide)
  | j + 2 => by simp only [accN]; exact and_lt (and_lt (by decide))
theorem index_pair0 (a b : Int) (w : World) : (Instr.index 50 (.agg #[.int .i64 a, .int .i64 b]) (.int .i64 0)).run Tryd.prog w = .ok (.int .i64 a) w := by kernel_rfl
theorem index_pair1 (a b : Int) (w : World) : (Instr.index 50 (.agg #[.int .i64 a, .int .i64 b]) (.int .i64 1)).run Tryd.prog w = .ok (.int .i64 b) w := by kernel_rfl
set_option maxRecDepth 100000 in
set_option maxHeartbeats 4000000 in
theorem node_any (G : AG) (hok : G.ok) (hf : G.fit) (T : Nat → Option Nat) (hT : ∀ n v, T n = some v → v < 18446744073709551616) (K : Nat → Option Nat) (hTK : T = Cut.tab K G.fst G.ands) (w0 : World) (hin : G.In w0) (b B : Nat) (hbB : b ≠ B) (hB0 : w0.heap.size ≤ B) : ∀ n, n < G.cn → ∀ (cap : Nat) (M : Nat → Option Nat) (w : World), Below w0.heap.size w0 w → CONE G B b w → MapM w B cap M → (∀ n v, K n = some v → M n = some v) → (∀ x v, M x = some v → T x = some v) → cap + unk G.cn M ≤ 1000000 →
    Calls Tryd.prog 51 #[.pointer (some ⟨b, 0, none⟩), .int .i64 (n : Int)] w (NodeOut T G.cn B cap n M w) := by
  intro n
  induction n using Nat.strongRecOn with
  | ind n ih =>
  intro hn cap M w hw0 hcone hmap hKM hMT hcap
  unfold NodeOut
  have hcn1 : G.cn ≤ 3001 := by have := hf.i; have := hf.f; have := hf.a; have := hok.1; unfold AG.cn AG.fst; omega
  have hFn : G.fst ≤ G.cn := by unfold AG.cn; omega
  have HC := Lib.hid (show Blk w b 87 #[.int .i64 G.I, .slice G.AF G.fl.length G.cF, .slice G.AA G.an.length G.cA, .slice G.AO G.ou.length G.cO, .int .i64 (G.fst : Int), .map (some B)] from hcone)
  have HM := Lib.hid hmap
  have hz := HC.out.lt
  have c5 := HC.out.cell 5
  have hwfk : (Lit.int .i64 (n : Int)).wf = true := WalkArith.wf_i64 (by omega)
  have hkey : keyOf Tryd.prog 3 (.int .i64 (n : Int)) = some (.int .i64 (n : Int)) := keyOf_int_mk Tryd.underlying3 hwfk
  have HK := Lib.hid hkey
  obtain ⟨D, hown, hD⟩ := id hmap
  have HOWN := Lib.hid hown
  have hhas := hD.has n
  clear hwfk hkey hown hmap hcone
  cases hMn : M n with
  | some v =>
    rw [hMn] at hhas
    have hh : Maps.has D (.int .i64 (n : Int)) = true := hhas
    have hTn := hMT n v hMn
    have hat := hD.at_ n v hMn (.lit (.int .u64 0))
    have HAT := Lib.hid hat
    rw [hTn]
    have HMT := Lib.hid hMT
    clear hat hhas hMn hTn hD ih hMT hTK hKM
    go_enter Tryd.func51, Tryd.ntmps51
    go_wp2_with (at_lookup; refine wpList_lookup_own_ok_int _ rfl _ _ 85 rfl 3 27 .u64 key_int Tryd.underlying85 Tryd.underlying27 (zero_u64 _) B cap D rfl HOWN.out _ _ rfl HK.out ?_; intro c hat hwc)
    have hcv : c = (v : Int) := by have := hat.symm.trans HAT.out; simpa using this
    subst hcv
    go_ret2
    exact ⟨rfl, cap, M, NodeSt.refl HM.out HMT.out⟩
  | none =>
    rw [hMn] at hhas
    have hh : Maps.has D (.int .i64 (n : Int)) = false := hhas
    have hKn : K n = none := by
      cases hk : K n with
      | none => rfl
      | some v => rw [hKM n v hk] at hMn; cases hMn
    have c4 := HC.out.cell 4
    by_cases hlow : n < G.fst
    · have hTn : T n = none := by rw [hTK]; exact Cut.tab_low hKn hlow
      rw [hTn]
      have HMT := Lib.hid hMT
      have hlow' : (n : Int) < (G.fst : Int) := by omega
      clear hhas hMn hKn hTn hD ih hMT hTK hKM
      go_enter Tryd.func51, Tryd.ntmps51
      go_wp2_with (at_lookup; refine wpList_lookup_own_ok_int _ rfl _ _ 85 rfl 3 27 .u64 key_int Tryd.underlying85 Tryd.underlying27 (zero_u64 _) B cap D rfl HOWN.out _ _ rfl HK.out ?_; intro c hat hwc)
      go_ret2
      exact ⟨rfl, cap, M, NodeSt.refl HM.out HMT.out⟩
    obtain ⟨i, hi⟩ : ∃ i, n - G.fst = i := ⟨_, rfl⟩
    have hia : i < G.an.length := by have : G.cn = G.fst + G.an.length := rfl; omega
    have hni : G.fst + i = n := by omega
    have hnF : (n : Int) - (G.fst : Int) = (i : Int) := by omega
    have hlow' : ¬ (n : Int) < (G.fst : Int) := by omega
    have hwi : IntKind.i64.wrap (i : Int) = (i : Int) := IntWalk.i64_in _ (by omega)
    obtain ⟨a, b', hg, hgs, ha, hb, ha3, hb3⟩ := hok.gate hia
    rw [hni] at ha hb
    have hTn : T n = match T (a / 2) with
      | none => none
      | some x => match T (b' / 2) with
        | none => none
        | some y => some (Cut.lit x a &&& Cut.lit y b') := by
      rw [hTK]
      exact Cut.tab_gate hKn hlow (by rw [hi]; exact hgs) ha hb
    obtain ⟨pa, hPA, hpb, e0, e1⟩ := hin.an.two (pc_get G.an i hia).1 (pc_get G.an i hia).2
    rw [hg] at e0 e1
    obtain ⟨ga, hga⟩ : ∃ p, pa.add (i * 2) = p := ⟨_, rfl⟩
    have hgab : ga.block < w0.heap.size := by rw [← hga, add_block]; exact hpb
    rw [hga] at e0 e1
    have e2 : w.cell? ga = some (.int .i64 (a : Int)) := (hw0.cell hgab).trans e0
    have e3 : w.cell? ⟨ga.block, ga.off + 1, none⟩ = some (.int .i64 (b' : Int)) := (hw0.cell (p := ⟨ga.block, ga.off + 1, none⟩) hgab).trans e1
    have c2 := HC.out.cell 2
    rw [hPA] at c2
    have hfst : G.fst ≤ 2001 := by unfold AG.fst at *; have := hf.i; have := hf.f; have := hok.1; omega
    have hia' : (i : Int) < (G.an.length : Int) := by omega
    have HST := Lib.hid (NodeSt.refl (N := G.cn) (n := n) HM.out hMT)
    have HKM := Lib.hid hKM
    have HIH := Lib.hid ih
    have HW0 := Lib.hid hw0
    have HTN := Lib.hid hTn
    have HMN := Lib.hid hMn
    have hT64 := Lib.hid hT
    have HANL := Lib.hid (show G.an.length ≤ 1000 from hf.a)
    have hanl := hf.a
    obtain ⟨NA, hNA⟩ : ∃ N, G.an.length = N := ⟨_, rfl⟩
    rw [hNA] at hia' c2 hanl hia
    clear hhas hMn hKn hD ih hMT hTK hKM hi hg hgs hpb e0 e1 hPA hTn hw0 hT
    go_enter Tryd.func51, Tryd.ntmps51
    go_wp2_with (at_lookup; refine wpList_lookup_own_ok_int _ rfl _ _ 85 rfl 3 27 .u64 key_int Tryd.underlying85 Tryd.underlying27 (zero_u64 _) B cap D rfl HOWN.out _ _ rfl HK.out ?_; intro c hat hwc)
    refine wp_region_still_in (by kernel_rfl) (by kernel_rfl) fun St9 ne9 V9 hV9 hS9 => ?_
    have qc2 := still_cell hV9 c2
    have qc4 := still_cell hV9 c4
    have qe2 := still_cell hV9 e2
    have qe3 := still_cell hV9 e3
    repeat (first | go_big_quiet_step (fail) | quiet_step (fail))
    refine wpQuiet_nil ?_
    intro _ hw9
    obtain ⟨s9, rfl⟩ := hw9
    have hb9 := hV9 s9
    clear qc2 qc4 qe2 qe3 hS9
    generalize V9 s9 = w9 at hb9 ⊢
    clear hV9 s9 V9 ne9 St9
    obtain ⟨a2, ha2⟩ : ∃ d, a / 2 = d := ⟨_, rfl⟩
    obtain ⟨b2, hb2⟩ : ∃ d, b' / 2 = d := ⟨_, rfl⟩
    rw [ha2] at HTN ha
    rw [hb2] at HTN hb
    have hae : (a : Int) / 2 = (a2 : Int) := by omega
    have hbe : (b' : Int) / 2 = (b2 : Int) := by omega
    obtain ⟨ox, hox⟩ : ∃ o, T a2 = o := ⟨_, rfl⟩
    obtain ⟨oy, hoy⟩ : ∃ o, T b2 = o := ⟨_, rfl⟩
    rw [hox, hoy] at HTN
    have HOX := Lib.hid hox
    have HOY := Lib.hid hoy
    have hox64 : optV ox < 18446744073709551616 := by
      cases ox with
      | none => decide
      | some v => exact hT64.out a2 v hox
    have hoy64 : optV oy < 18446744073709551616 := by
      cases oy with
      | none => decide
      | some v => exact hT64.out b2 v hoy
    have HACC := Lib.hid (accN_lt ox oy a b')
    have HST9 := Lib.hid (HST.out.below hb9)
    have HC9 := Lib.hid (show CONE G B b w9 from HC.out.keep hb9)
    have HB9 := Lib.hid (below_then HW0.out hb9)
    clear ha2 hb2 hox hoy hox64 hoy64 hb9 c2 c4 c5 e2 e3 hia hia' hnF hwi hga hgab hat hwc hh hNA hanl hz HM HC
    go_wp2_with fail
    go_loopw [8, 43] (fun v8 v43 wx => ∃ (j cap' : Nat) (M' : Nat → Option Nat), j ≤ 2 ∧ v43 = .int .i64 (j : Int) ∧ v8 = .int .u64 (accN ox oy a b' j : Int) ∧ (1 ≤ j → ox.isSome = true) ∧ (2 ≤ j → oy.isSome = true) ∧ NodeSt T G.cn B cap n M w wx cap' M' ∧ CONE G B b wx ∧ Below w0.heap.size w0 wx) (fun _ v43 _ => 2 - (intOf v43).toNat)
    case atStart => exact ⟨0, cap, M, by omega, rfl, rfl, fun h => absurd h (by omega), fun h => absurd h (by omega), HST9.out, HC9.out, HB9.out⟩
    case round =>
      obtain ⟨j, cap', M', hj, rfl, rfl, hx1, hx2, hS, hC, hB⟩ := hrel
      have HS5 := Lib.hid hS
      have HC5 := Lib.hid hC
      have HB5 := Lib.hid hB
      have HX1 := Lib.hid hx1
      have HX2 := Lib.hid hx2
      clear hS hC hB hx1 hx2 HST9 HC9 HB9
      rcases (show j = 0 ∨ j = 1 ∨ j = 2 by omega) with rfl | rfl | rfl
      · skip
        have hst := HS5.out
        have hroom : cap' + unk G.cn M' ≤ 1000000 := Nat.le_trans hst.room hcap
        have hkm : ∀ n v, K n = some v → M' n = some v := fun n v h => hst.more n v (HKM.out n v h)
        have HNODE := Lib.hid (HIH.out a2 ha (by omega) cap' M' wr HB5.out HC5.out hst.map hkm hst.true_ hroom)
        clear hst hroom hkm
        have hix0 := index_pair0 (a : Int) (b' : Int)
        have hix1 := index_pair1 (a : Int) (b' : Int)
        go_wp2_with fail
        clear hix0 hix1
        refine HNODE.out.mono ?_
        rintro e w6 ⟨rfl, cap6, M6, hS6⟩
        have S6 := Lib.hid (HS5.out.trans hS6 (by omega))
        have C6 := Lib.hid (show CONE G B b w6 from hS6.chg.blk HC5.out (by exact hbB))
        have B6 := Lib.hid (hS6.chg.below HB5.out HB5.out.size (fun k hk => by rw [hk]; exact hB0))
        clear hS6 HNODE
        rw [HOX.out]
        cases ho : ox with
        | none =>
          have hTn : T n = none := by rw [HTN.out]; rw [ho]
          have HTNN := Lib.hid hTn
          simp only [optV, optE, Option.getD_none, Option.isSome_none]
          clear hTn
          go_wp2_with fail
          go_ret2
          exact ⟨by rw [HTNN.out]; rfl, cap6, M6, S6.out.weak (by omega)⟩
        | some u =>
          have hu64 : u < 18446744073709551616 := hT64.out a2 u (HOX.out.trans ho)
          have hnot : bits .xor .u64 (if IntKind.u64.signed = true then -1 else IntKind.u64.max) (u : Int) = ((u ^^^ Cut.ones : Nat) : Int) := not_if u hu64
          have hacc : accN ox oy a b' 1 = accN ox oy a b' 0 &&& Cut.lit u a := by rw [ho]; exact accN_1 u oy a b'
          have hacc64 : accN ox oy a b' 0 < 18446744073709551616 := HACC.out 0
          have HACN := Lib.hid hacc
          have HO2 := Lib.hid (show (ox).isSome = true by rw [ho]; rfl)
          have hand1 := and1_i64 a (by omega)
          have hlit : Cut.lit u a < 18446744073709551616 := lit_lt hu64
          have HLIT := Lib.hid (show Cut.lit u a = if a % 2 = 1 then u ^^^ Cut.ones else u from rfl)
          simp only [optV, optE, Option.getD_some, Option.isSome_some]
          clear hacc
          have hge : accN (some u) oy a b' 0 = accN ox oy a b' 0 := by rw [ho]
          rw [hge]
          clear hge
          generalize accN ox oy a b' 0 = acc at hacc64 HACN ⊢
          have HAND := u64_and_nat acc (Cut.lit u a) hacc64 hlit
          by_cases hodd : a % 2 = 1
          · rw [hodd] at hand1
            have hl : Cut.lit u a = u ^^^ Cut.ones := by rw [HLIT.out, if_pos hodd]
            rw [hl] at HAND HACN
            clear HLIT hl hlit hodd
            generalize u ^^^ Cut.ones = z at hnot HAND HACN
            go_wp2_with fail
            go_roundw
            case rel => exact ⟨1, cap6, M6, by omega, by go_num, by rw [HACN.out], fun _ => HO2.out, fun h => absurd h (by omega), S6.out, C6.out, B6.out⟩
            case measure => simp [intOf]
          · have h0 : a % 2 = 0 := by omega
            rw [h0] at hand1
            have hl : Cut.lit u a = u := by rw [HLIT.out, if_neg hodd]
            rw [hl] at HAND HACN
            clear HLIT hl hlit hodd h0
            go_wp2_with fail
            go_roundw
            case rel => exact ⟨1, cap6, M6, by omega, by go_num, by rw [HACN.out], fun _ => HO2.out, fun h => absurd h (by omega), S6.out, C6.out, B6.out⟩
            case measure => simp [intOf]
      · obtain ⟨u1, hu1⟩ := Option.isSome_iff_exists.1 (HX1.out (Nat.le_refl _))
        have HU1 := Lib.hid hu1
        clear hu1
        have hst := HS5.out
        have hroom : cap' + unk G.cn M' ≤ 1000000 := Nat.le_trans hst.room hcap
        have hkm : ∀ n v, K n = some v → M' n = some v := fun n v h => hst.more n v (HKM.out n v h)
        have HNODE := Lib.hid (HIH.out b2 hb (by omega) cap' M' wr HB5.out HC5.out hst.map hkm hst.true_ hroom)
        clear hst hroom hkm
        have hix0 := index_pair0 (a : Int) (b' : Int)
        have hix1 := index_pair1 (a : Int) (b' : Int)
        go_wp2_with fail
        clear hix0 hix1
        refine HNODE.out.mono ?_
        rintro e w6 ⟨rfl, cap6, M6, hS6⟩
        have S6 := Lib.hid (HS5.out.trans hS6 (by omega))
        have C6 := Lib.hid (show CONE G B b w6 from hS6.chg.blk HC5.out (by exact hbB))
        have B6 := Lib.hid (hS6.chg.below HB5.out HB5.out.size (fun k hk => by rw [hk]; exact hB0))
        clear hS6 HNODE
        rw [HOY.out]
        cases ho : oy with
        | none =>
          have hTn : T n = none := by rw [HTN.out]; rw [HU1.out]; rw [ho]
          have HTNN := Lib.hid hTn
          simp only [optV, optE, Option.getD_none, Option.isSome_none]
          clear hTn
          go_wp2_with fail
          go_ret2
          exact ⟨by rw [HTNN.out]; rfl, cap6, M6, S6.out.weak (by omega)⟩
        | some u =>
          have hu64 : u < 18446744073709551616 := hT64.out b2 u (HOY.out.trans ho)
          have hnot : bits .xor .u64 (if IntKind.u64.signed = true then -1 else IntKind.u64.max) (u : Int) = ((u ^^^ Cut.ones : Nat) : Int) := not_if u hu64
          have hacc : accN ox oy a b' 2 = accN ox oy a b' 1 &&& Cut.lit u b' := by rw [ho]; exact accN_2 ox u a b'
          have hacc64 : accN ox oy a b' 1 < 18446744073709551616 := HACC.out 1
          have HACN := Lib.hid hacc
          have HO2 := Lib.hid (show (oy).isSome = true by rw [ho]; rfl)
          have hand1 := and1_i64 b' (by omega)
          have hlit : Cut.lit u b' < 18446744073709551616 := lit_lt hu64
          have HLIT := Lib.hid (show Cut.lit u b' = if b' % 2 = 1 then u ^^^ Cut.ones else u from rfl)
          simp only [optV, optE, Option.getD_some, Option.isSome_some]
          clear hacc
          have hge : accN ox (some u) a b' 1 = accN ox oy a b' 1 := by rw [ho]
          rw [hge]
          clear hge
          generalize accN ox oy a b' 1 = acc at hacc64 HACN ⊢
          have HAND := u64_and_nat acc (Cut.lit u b') hacc64 hlit
          by_cases hodd : b' % 2 = 1
          · rw [hodd] at hand1
            have hl : Cut.lit u b' = u ^^^ Cut.ones := by rw [HLIT.out, if_pos hodd]
            rw [hl] at HAND HACN
            clear HLIT hl hlit hodd
            generalize u ^^^ Cut.ones = z at hnot HAND HACN
            go_wp2_with fail
            go_roundw
            case rel => exact ⟨2, cap6, M6, by omega, by go_num, by rw [HACN.out], fun _ => HX1.out (Nat.le_refl _), fun _ => HO2.out, S6.out, C6.out, B6.out⟩
            case measure => simp [intOf]
          · have h0 : b' % 2 = 0 := by omega
            rw [h0] at hand1
            have hl : Cut.lit u b' = u := by rw [HLIT.out, if_neg hodd]
            rw [hl] at HAND HACN
            clear HLIT hl hlit hodd h0
            go_wp2_with fail
            go_roundw
            case rel => exact ⟨2, cap6, M6, by omega, by go_num, by rw [HACN.out], fun _ => HX1.out (Nat.le_refl _), fun _ => HO2.out, S6.out, C6.out, B6.out⟩
            case measure => simp [intOf]
      · obtain ⟨u, hu⟩ := Option.isSome_iff_exists.1 (HX1.out (by omega))
        obtain ⟨v, hv⟩ := Option.isSome_iff_exists.1 (HX2.out (by omega))
        have hTn : T n = some (Cut.lit u a &&& Cut.lit v b') := by rw [HTN.out, hu, hv]
        have hu64 := hT64.out a2 u (HOX.out.trans hu)
        have hacc : accN ox oy a b' 2 = Cut.lit u a &&& Cut.lit v b' := by
          rw [hu, hv]; exact accN_all u v a b' hu64
        rw [hacc]
        have hres64 : Cut.lit u a &&& Cut.lit v b' < 18446744073709551616 := and_lt (lit_lt hu64)
        generalize Cut.lit u a &&& Cut.lit v b' = res at hTn hres64
        have HTR := Lib.hid hTn
        have hmap5 := HS5.out.map
        have hcap5 : cap' < maxLen := by have := HS5.out.room; unfold maxLen; omega
        obtain ⟨w7, hmu, hm7, hg7⟩ := hmap5.update hcap5 n res (by omega) hres64
        have HM7 := Lib.hid hm7
        have HG7 := Lib.hid hg7
        have c5 := HC5.out.cell 5
        have hchg : Chg wr w7 fun k => k = B := (Chg.of_grown HG7.out).mono' (fun k hk => by simpa using hk)
        have H9 := Lib.hid (HS5.out.put HMN.out hn HTR.out hchg HM7.out)
        clear hu hv hTn hu64 hacc hmap5 hm7 hg7 hchg
        go_wp2_with fail
        go_ret2
        have HRES : (Value.tuple #[.int .u64 (optV (T n) : Int), .bool (T n).isSome]) = .tuple #[.int .u64 (res : Int), .bool true] := by rw [HTR.out]; rfl
        rw [HRES]
        exact ⟨rfl, _, _, H9.out⟩
end Go.Proofs.YtkhlllbceceikaaDoor
