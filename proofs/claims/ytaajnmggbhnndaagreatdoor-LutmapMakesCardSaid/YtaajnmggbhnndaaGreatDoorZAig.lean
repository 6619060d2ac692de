/- Gates that came in, as plain data; walks of filigree/aig's check. · Walks of filigree/aig.Check and what it calls; filigreeref18.Count, Lit. · Walks of filigree/aig.begin (no literals), Check; filigreeref18.Count, Lit, Ints. · Walk of filigreeref18.Check. -/
import Derived.Test.YtaajnmggbhnndaaGreatDoorZMem
namespace Go.Proofs.YtaajnmggbhnndaaGreatDoor
open Go.RowKit
set_option linter.unusedVariables false
set_option linter.unusedSimpArgs false

/-- gates, as plain data, and where they lie -/
structure AG where
  I : Int
  AF : Option Addr
  cF : Nat
  fl : List (Int × Bool)
  AA : Option Addr
  cA : Nat
  an : List (Int × Int)
  AO : Option Addr
  cO : Nat
  ou : List Int
def fc (xs : List (Int × Bool)) : List Value := xs.flatMap fun p => [.int .i64 p.1, .bool p.2]
theorem fc_length (l : List (Int × Bool)) : (fc l).length = l.length * 2 := by
  induction l with
  | nil => rfl
  | cons x l ih => simp only [fc, List.flatMap_cons, List.length_append] at ih ⊢; simp only [List.length_cons, List.length_nil] at ih ⊢; omega
theorem pc_length (l : List (Int × Int)) : (pc l).length = l.length * 2 := by
  induction l with
  | nil => rfl
  | cons x l ih => simp only [pc, List.flatMap_cons, List.length_append] at ih ⊢; simp only [List.length_cons, List.length_nil] at ih ⊢; omega
theorem fc_get : ∀ (l : List (Int × Bool)) (k : Nat) (hk : k < l.length), (fc l)[k * 2]? = some (.int .i64 l[k].1) ∧ (fc l)[k * 2 + 1]? = some (.bool l[k].2)
  | x :: l, 0, _ => ⟨rfl, rfl⟩
  | x :: l, k + 1, hk => by
    have ih := fc_get l k (by simpa using hk)
    have e : fc (x :: l) = [.int .i64 x.1, .bool x.2] ++ fc l := rfl
    rw [e, List.getElem?_append_right (by simp; omega), List.getElem?_append_right (by simp; omega)]
    simp only [List.length_cons, List.length_nil, List.getElem_cons_succ]
    rw [show (k + 1) * 2 - (0 + 1 + 1) = k * 2 by omega, show (k + 1) * 2 + 1 - (0 + 1 + 1) = k * 2 + 1 by omega]
    exact ih
theorem pc_get : ∀ (l : List (Int × Int)) (k : Nat) (hk : k < l.length), (pc l)[k * 2]? = some (.int .i64 l[k].1) ∧ (pc l)[k * 2 + 1]? = some (.int .i64 l[k].2)
  | x :: l, 0, _ => ⟨rfl, rfl⟩
  | x :: l, k + 1, hk => by
    have ih := pc_get l k (by simpa using hk)
    have e : pc (x :: l) = [.int .i64 x.1, .int .i64 x.2] ++ pc l := rfl
    rw [e, List.getElem?_append_right (by simp; omega), List.getElem?_append_right (by simp; omega)]
    simp only [List.length_cons, List.length_nil, List.getElem_cons_succ]
    rw [show (k + 1) * 2 - (0 + 1 + 1) = k * 2 by omega, show (k + 1) * 2 + 1 - (0 + 1 + 1) = k * 2 + 1 by omega]
    exact ih
theorem Rd.two {w : World} {A : Option Addr} {n c k : Nat} {xs : List Value} {u v : Value} (h : Rd w 2 A n c xs) (h0 : xs[k * 2]? = some u) (h1 : xs[k * 2 + 1]? = some v) :
    ∃ a, A = some a ∧ a.block < w.heap.size ∧ w.cell? (a.add (k * 2)) = some u ∧ w.cell? ⟨(a.add (k * 2)).block, (a.add (k * 2)).off + 1, none⟩ = some v := by
  obtain ⟨a, e, hb, c0⟩ := h.read _ _ h0
  obtain ⟨a2, e2, -, c1⟩ := h.read _ _ h1
  rw [e] at e2
  injection e2 with e2
  subst e2
  exact ⟨a, e, hb, c0, by rw [add_field a (k * 2) 1 (by omega)]; exact c1⟩
structure AG.In (G : AG) (w : World) : Prop where
  fl : Rd w 2 G.AF G.fl.length G.cF (fc G.fl)
  an : Rd w 2 G.AA G.an.length G.cA (pc G.an)
  ou : Rd w 1 G.AO G.ou.length G.cO (ints G.ou)
theorem AG.In.later {G : AG} {w w' : World} (h : G.In w) (hb : Below w.heap.size w w') : G.In w' := ⟨h.fl.later hb, h.an.later hb, h.ou.later hb⟩
/-- small enough for the walks -/
structure AG.fit (G : AG) : Prop where
  i : G.I ≤ 1000
  f : G.fl.length ≤ 1000
  a : G.an.length ≤ 1000
  o : G.ou.length ≤ 1000
/-- how many nodes there are but the first; the node of the first gate -/
def AG.cnt (G : AG) : Int := G.I + (G.fl.length : Int) + (G.an.length : Int)
def AG.first (G : AG) : Int := 1 + G.I + (G.fl.length : Int)
def litB (c a : Int) : Bool := decide (0 ≤ a) && decide (a / 2 ≤ c)
def gateB (F : Int) (i : Nat) (p : Int × Int) : Bool := decide (min p.1 p.2 < 0) || decide (2 * (F + (i : Int)) ≤ max p.1 p.2)
/-- may gates be? -/
def AG.ok (G : AG) : Prop := 0 ≤ G.I ∧ (∀ f ∈ G.fl, litB G.cnt f.1 = true) ∧ (∀ x ∈ G.ou, litB G.cnt x = true) ∧ ∀ i (h : i < G.an.length), gateB G.first i G.an[i] = false
def AG.work (G : AG) (e : Int) : Array Value := #[.int .i64 G.I, .slice G.AF G.fl.length G.cF, .slice G.AA G.an.length G.cA, .slice G.AO G.ou.length G.cO, .int .i64 e]
def AWK (G : AG) (e : Int) (w : World) (b : Nat) : Prop := Blk w b 115 #[.int .i64 G.I, .slice G.AF G.fl.length G.cF, .slice G.AA G.an.length G.cA, .slice G.AO G.ou.length G.cO, .int .i64 e]

set_option maxRecDepth 100000 in
set_option maxHeartbeats 1000000 in
theorem count_any (G : AG) (e : Int) (b : Nat) (w : World) (hb : AWK G e w b) (hi : 0 ≤ G.I) (hf : G.fit) :
    Calls Tryz.prog 87 #[.pointer (some ⟨b, 0, none⟩)] w fun r w' => r = .returned (.int .i64 G.cnt) ∧ Below w.heap.size w w' := by
  have k0 := hb.cell 0
  have k1 := hb.cell 1
  have k2 := hb.cell 2
  have h1 := hf.i
  have h2 := hf.f
  have h3 := hf.a
  obtain ⟨c, hc⟩ : ∃ c, G.cnt = c := ⟨_, rfl⟩
  have HC := Lib.hid hc
  rw [hc]
  clear hb hf hc
  go_enter Tryz.func87, Tryz.ntmps87
  go_wp2_with fail
  go_quiet (fail)
  go_wp2_with fail
  go_ret
  exact ⟨by rw [← HC.out]; rfl, below_drewN (Below.refl _ _) _⟩
set_option maxRecDepth 100000 in
set_option maxHeartbeats 1000000 in
theorem first_any (G : AG) (e : Int) (b : Nat) (w : World) (hb : AWK G e w b) (hi : 0 ≤ G.I) (hf : G.fit) :
    Calls Tryz.prog 89 #[.pointer (some ⟨b, 0, none⟩)] w fun r w' => r = .returned (.int .i64 G.first) ∧ Below w.heap.size w w' := by
  have k0 := hb.cell 0
  have k1 := hb.cell 1
  have h1 := hf.i
  have h2 := hf.f
  obtain ⟨c, hc⟩ : ∃ c, G.first = c := ⟨_, rfl⟩
  have HC := Lib.hid hc
  rw [hc]
  clear hb hf hc
  go_enter Tryz.func89, Tryz.ntmps89
  go_wp2_with fail
  go_quiet (fail)
  go_wp2_with fail
  go_ret
  exact ⟨by rw [← HC.out]; rfl, below_drewN (Below.refl _ _) _⟩
set_option maxRecDepth 100000 in
set_option maxHeartbeats 1000000 in
theorem lit_any (G : AG) (e a : Int) (b : Nat) (w : World) (hb : AWK G e w b) (hi : 0 ≤ G.I) (hf : G.fit) (ha : a ≤ 9223372036854775807) :
    Calls Tryz.prog 72 #[.pointer (some ⟨b, 0, none⟩), .int .i64 a] w fun r w' => r = .returned (.bool (litB G.cnt a)) ∧ Below w.heap.size w w' := by
  obtain ⟨r, hr⟩ : ∃ r, litB G.cnt a = r := ⟨_, rfl⟩
  have HR := Lib.hid hr
  rw [hr]
  have HCNT := Lib.hid (count_any G e b w hb hi hf)
  obtain ⟨c, hc⟩ : ∃ c, G.cnt = c := ⟨_, rfl⟩
  rw [hc] at HCNT HR
  clear hb hi hf hc hr
  by_cases h0 : 0 ≤ a
  · have hd : Int.tdiv a 2 = a / 2 := Int.tdiv_eq_ediv_of_nonneg h0
    have hd0 : 0 ≤ a / 2 := by omega
    have hdw : IntKind.i64.wrap (a / 2) = a / 2 := IntWalk.i64_in _ (by omega)
    have hdv : wrap64 (a / 2) = a / 2 := by unfold wrap64; omega
    go_enter Tryz.func72, Tryz.ntmps72
    go_wp2_with fail
    refine HCNT.out.mono ?_
    rintro e w1 ⟨rfl, hb1⟩
    have B1 := Lib.hid hb1
    clear hb1
    go_wp2_with fail
    go_ret
    exact ⟨by rw [← HR.out]; unfold litB; rw [decide_eq_true h0]; rfl, B1.out⟩
  · have hl : decide (0 ≤ a) = false := decide_eq_false h0
    have HL := Lib.hid hl
    clear hl
    go_enter Tryz.func72, Tryz.ntmps72
    go_wp2_with fail
    go_ret
    exact ⟨by rw [← HR.out]; unfold litB; rw [HL.out]; rfl, Below.refl _ _⟩

/-! ## The closures, and what holds them -/
/-- a flop whose next is no literal -/
def badF (c : Int) (f : Int × Bool) : Bool := !litB c f.1
def badO (c : Int) (a : Int) : Bool := !litB c a
def wBox (b g : Nat) (w : World) : Prop := w.cell? ⟨g, 0, none⟩ = some (.pointer (some ⟨b, 0, none⟩)) ∧ g < w.heap.size
set_option maxRecDepth 100000 in
set_option maxHeartbeats 1000000 in
theorem next_bad (G : AG) (e : Int) (b g : Nat) (x : Int) (y : Bool) (w : World) (hb : AWK G e w b) (hg : wBox b g w) (hi : 0 ≤ G.I) (hf : G.fit) (ha : x ≤ 9223372036854775807) :
    Calls Tryz.prog 85 #[.agg #[.int .i64 x, .bool y], .pointer (some ⟨g, 0, none⟩)] w fun r w' => r = .returned (.bool (badF G.cnt (x, y))) ∧ Below w.heap.size w w' := by
  have hn := below_new w (.cells #[.int .i64 x, .bool y] 62)
  have HL := Lib.hid (lit_any G e x b _ (Blk.keep hb hn) hi hf ha)
  have B0 := Lib.hid hn
  have k0 : (w.alloc (.cells #[.int .i64 x, .bool y] 62)).cell? ⟨g, 0, none⟩ = some (.pointer (some ⟨b, 0, none⟩)) := (hn.cell (p := ⟨g, 0, none⟩) hg.2).trans hg.1
  have hgl := hg.2
  have kk := hg.1
  obtain ⟨r, hr⟩ : ∃ r, litB G.cnt x = r := ⟨_, rfl⟩
  rw [hr] at HL
  have HR := Lib.hid hr
  clear hb hg hi hf hn hr
  go_enter Tryz.func85, Tryz.ntmps85
  go_wp2_with fail
  refine HL.out.mono ?_
  rintro e w1 ⟨rfl, hb1⟩
  have B1 := Lib.hid (below_then B0.out hb1)
  clear hb1
  go_wp2_with fail
  go_ret
  exact ⟨by unfold badF; rw [HR.out]; rfl, B1.out⟩
set_option maxRecDepth 100000 in
set_option maxHeartbeats 1000000 in
theorem out_bad (G : AG) (e : Int) (b g : Nat) (x : Int) (w : World) (hb : AWK G e w b) (hg : wBox b g w) (hi : 0 ≤ G.I) (hf : G.fit) (ha : x ≤ 9223372036854775807) :
    Calls Tryz.prog 86 #[.int .i64 x, .pointer (some ⟨g, 0, none⟩)] w fun r w' => r = .returned (.bool (badO G.cnt x)) ∧ Below w.heap.size w w' := by
  have HL := Lib.hid (lit_any G e x b _ hb hi hf ha)
  have kk := hg.1
  obtain ⟨r, hr⟩ : ∃ r, litB G.cnt x = r := ⟨_, rfl⟩
  rw [hr] at HL
  have HR := Lib.hid hr
  clear hb hg hi hf hr
  go_enter Tryz.func86, Tryz.ntmps86
  go_wp2_with fail
  refine HL.out.mono ?_
  rintro e w1 ⟨rfl, hb1⟩
  have B1 := Lib.hid hb1
  clear hb1
  go_wp2_with fail
  go_ret
  exact ⟨by unfold badO; rw [HR.out]; rfl, B1.out⟩
def IndexA (y : Bool) (w : World) (e : Ending) (w' : World) : Prop := ∃ i : Int, e = .returned (.int .i64 i) ∧ (0 ≤ i ↔ y = true) ∧ Below w.heap.size w w'
set_option maxRecDepth 100000 in
set_option maxHeartbeats 2000000 in
theorem index_out (G : AG) (e : Int) (b g : Nat) (w : World) (A : Option Addr) (n c : Nat) (l : List Int) (hr : Rd w 1 A n c (ints l)) (hn : n ≤ 100000) (hb : AWK G e w b) (hg : wBox b g w) (hi : 0 ≤ G.I) (hf : G.fit) (ha : ∀ x ∈ l, x ≤ 9223372036854775807) :
    Calls Tryz.prog 44 #[.slice A n c, .func (.func 86) #[] #[.pointer (some ⟨g, 0, none⟩)]] w (IndexA (l.any (badO G.cnt)) w) := by
  have hl : n = l.length := by have := hr.len; rw [ints_length] at this; omega
  have HL := Lib.hid hl
  have HR := Lib.hid hr
  have HB := Lib.hid hb
  have HG := Lib.hid hg
  have HA := Lib.hid ha
  have HF := Lib.hid hf
  clear hl hr hb hg ha hf
  go_enter Tryz.func44, Tryz.ntmps44
  go_wp2_with fail
  go_loopw [8] (fun i wx => ∃ k : Nat, k ≤ n ∧ i = .int .i64 (k : Int) ∧ (l.take k).any (badO G.cnt) = false ∧ Below w.heap.size w wx) (fun i _ => n - (intOf i).toNat)
  case atStart => exact ⟨0, by omega, rfl, by simp, Below.refl _ _⟩
  case round =>
    obtain ⟨k, hk, rfl, hno, hB⟩ := hrel
    have HN := Lib.hid hno
    have B1 := Lib.hid hB
    clear hno hB
    by_cases hlt : k < n
    · obtain ⟨a, rfl, hab, c0⟩ := (HR.out.later B1.out).int hlt
      have hk' : k < l.length := by rw [← HL.out]; exact hlt
      have hg : l.getD k 0 = l[k] := by rw [List.getD_eq_getElem?_getD, List.getElem?_eq_getElem hk']; rfl
      rw [hg] at c0
      have htk : (l.take (k + 1)).any (badO G.cnt) = ((l.take k).any (badO G.cnt) || badO G.cnt l[k]) := by
        rw [List.take_succ_eq_append_getElem hk', List.any_append]; simp
      have hmem : badO G.cnt l[k] = true → l.any (badO G.cnt) = true := fun hx => List.any_eq_true.2 ⟨l[k], List.getElem_mem hk', hx⟩
      have hmx := HA.out _ (List.getElem_mem hk')
      have HT := Lib.hid htk
      have HM := Lib.hid hmem
      clear htk hmem hg
      generalize l[k] = t at c0 HT HM hmx
      have hcl := out_bad G e b g t wr (Blk.keep HB.out B1.out) ⟨(B1.out.cell (p := ⟨g, 0, none⟩) HG.out.2).trans HG.out.1, Nat.lt_of_lt_of_le HG.out.2 B1.out.size⟩ hi HF.out hmx
      have HCL := Lib.hid hcl
      clear hcl
      go_wp2_with fail
      refine HCL.out.mono ?_
      rintro e w1 ⟨rfl, hb1⟩
      have B2 := Lib.hid (below_then B1.out hb1)
      clear hb1
      cases ho : badO G.cnt t with
      | true =>
        go_wp2_with fail
        go_ret
        exact ⟨(k : Int), rfl, ⟨fun _ => HM.out ho, fun _ => by omega⟩, B2.out⟩
      | false =>
        go_wp2_with fail
        go_roundw
        case rel => exact ⟨k + 1, by omega, by go_num, by rw [HT.out, HN.out, ho]; rfl, B2.out⟩
        case measure => simp [intOf]; omega
    · obtain rfl : k = n := by omega
      go_wp2_with fail
      go_ret
      refine ⟨-1, rfl, ⟨fun h => absurd h (by omega), fun h => ?_⟩, B1.out⟩
      have := HN.out
      rw [List.take_of_length_le (by rw [← HL.out]; exact Nat.le_refl _)] at this
      rw [this] at h
      cases h
set_option maxRecDepth 100000 in
set_option maxHeartbeats 2000000 in
theorem index_next (G : AG) (e : Int) (b g : Nat) (w : World) (A : Option Addr) (n c : Nat) (l : List (Int × Bool)) (hr : Rd w 2 A n c (fc l)) (hn : n ≤ 100000) (hb : AWK G e w b) (hg : wBox b g w) (hi : 0 ≤ G.I) (hf : G.fit) (ha : ∀ x ∈ l, x.1 ≤ 9223372036854775807) :
    Calls Tryz.prog 104 #[.slice A n c, .func (.func 85) #[] #[.pointer (some ⟨g, 0, none⟩)]] w (IndexA (l.any (badF G.cnt)) w) := by
  have hl : n = l.length := by have := hr.len; rw [fc_length] at this; omega
  have HL := Lib.hid hl
  have HR := Lib.hid hr
  have HB := Lib.hid hb
  have HG := Lib.hid hg
  have HA := Lib.hid ha
  have HF := Lib.hid hf
  clear hl hr hb hg ha hf
  go_enter Tryz.func104, Tryz.ntmps104
  go_wp2_with fail
  go_loopw [8] (fun i wx => ∃ k : Nat, k ≤ n ∧ i = .int .i64 (k : Int) ∧ (l.take k).any (badF G.cnt) = false ∧ Below w.heap.size w wx) (fun i _ => n - (intOf i).toNat)
  case atStart => exact ⟨0, by omega, rfl, by simp, Below.refl _ _⟩
  case round =>
    obtain ⟨k, hk, rfl, hno, hB⟩ := hrel
    have HN := Lib.hid hno
    have B1 := Lib.hid hB
    clear hno hB
    by_cases hlt : k < n
    · have hk' : k < l.length := by rw [← HL.out]; exact hlt
      obtain ⟨g1, g2⟩ := fc_get l k hk'
      obtain ⟨a, rfl, hab, c0, c1⟩ := (HR.out.later B1.out).two g1 g2
      have htk : (l.take (k + 1)).any (badF G.cnt) = ((l.take k).any (badF G.cnt) || badF G.cnt l[k]) := by
        rw [List.take_succ_eq_append_getElem hk', List.any_append]; simp
      have hmem : badF G.cnt l[k] = true → l.any (badF G.cnt) = true := fun hx => List.any_eq_true.2 ⟨l[k], List.getElem_mem hk', hx⟩
      have hmx := HA.out _ (List.getElem_mem hk')
      have HT := Lib.hid htk
      have HM := Lib.hid hmem
      clear htk hmem g1 g2
      generalize l[k] = t at c0 c1 HT HM hmx
      obtain ⟨x, y⟩ := t
      simp only at c0 c1 hmx
      have hcl := next_bad G e b g x y wr (Blk.keep HB.out B1.out) ⟨(B1.out.cell (p := ⟨g, 0, none⟩) HG.out.2).trans HG.out.1, Nat.lt_of_lt_of_le HG.out.2 B1.out.size⟩ hi HF.out hmx
      have HCL := Lib.hid hcl
      clear hcl
      go_wp2_with fail
      refine HCL.out.mono ?_
      rintro e w1 ⟨rfl, hb1⟩
      have B2 := Lib.hid (below_then B1.out hb1)
      clear hb1
      cases ho : badF G.cnt (x, y) with
      | true =>
        go_wp2_with fail
        go_ret
        exact ⟨(k : Int), rfl, ⟨fun _ => HM.out ho, fun _ => by omega⟩, B2.out⟩
      | false =>
        go_wp2_with fail
        go_roundw
        case rel => exact ⟨k + 1, by omega, by go_num, by rw [HT.out, HN.out, ho]; rfl, B2.out⟩
        case measure => simp [intOf]; omega
    · obtain rfl : k = n := by omega
      go_wp2_with fail
      go_ret
      refine ⟨-1, rfl, ⟨fun h => absurd h (by omega), fun h => ?_⟩, B1.out⟩
      have := HN.out
      rw [List.take_of_length_le (by rw [← HL.out]; exact Nat.le_refl _)] at this
      rw [this] at h
      cases h
end Go.Proofs.YtaajnmggbhnndaaGreatDoor

namespace Go.Proofs.YtaajnmggbhnndaaGreatDoor
open Go.RowKit
set_option linter.unusedVariables false
set_option linter.unusedSimpArgs false

/-- all numbers of gates are numbers of the machine -/
structure AG.wf (G : AG) : Prop where
  fl : ∀ x ∈ G.fl, x.1 ≤ 9223372036854775807
  an : ∀ x ∈ G.an, x.1 ≤ 9223372036854775807 ∧ x.2 ≤ 9223372036854775807
  ou : ∀ x ∈ G.ou, x ≤ 9223372036854775807
set_option maxRecDepth 100000 in
theorem contains_out (G : AG) (e : Int) (b g : Nat) (w : World) (hin : G.In w) (hb : AWK G e w b) (hg : wBox b g w) (hi : 0 ≤ G.I) (hf : G.fit) (hw : G.wf) :
    Calls Tryz.prog 30 #[.slice G.AO G.ou.length G.cO, .func (.func 86) #[] #[.pointer (some ⟨g, 0, none⟩)]] w fun r w' => r = .returned (.bool (G.ou.any (badO G.cnt))) ∧ Below w.heap.size w w' := by
  have HX := Lib.hid (index_out G e b g w G.AO G.ou.length G.cO G.ou hin.ou (by have := hf.o; omega) hb hg hi hf hw.ou)
  obtain ⟨r, hr⟩ : ∃ r, G.ou.any (badO G.cnt) = r := ⟨_, rfl⟩
  rw [hr] at HX ⊢
  clear hin hb hg hi hf hw hr
  go_enter Tryz.func30, Tryz.ntmps30
  go_wp2_with fail
  refine HX.out.mono ?_
  rintro e w1 ⟨i, rfl, hx, hb1⟩
  have HI := Lib.hid hx
  have B1 := Lib.hid hb1
  clear hx hb1
  by_cases h0 : 0 ≤ i
  · have hd : decide (0 ≤ i) = true := decide_eq_true h0
    have HR := Lib.hid (HI.out.1 h0)
    go_wp2_with fail
    go_ret
    exact ⟨by rw [HR.out]; rfl, B1.out⟩
  · have hd : decide (0 ≤ i) = false := decide_eq_false h0
    have hr : r = false := by cases r with
      | false => rfl
      | true => exact absurd (HI.out.2 rfl) h0
    have HR := Lib.hid hr
    clear hr
    go_wp2_with fail
    go_ret
    exact ⟨by rw [HR.out]; rfl, B1.out⟩
set_option maxRecDepth 100000 in
theorem contains_next (G : AG) (e : Int) (b g : Nat) (w : World) (hin : G.In w) (hb : AWK G e w b) (hg : wBox b g w) (hi : 0 ≤ G.I) (hf : G.fit) (hw : G.wf) :
    Calls Tryz.prog 88 #[.slice G.AF G.fl.length G.cF, .func (.func 85) #[] #[.pointer (some ⟨g, 0, none⟩)]] w fun r w' => r = .returned (.bool (G.fl.any (badF G.cnt))) ∧ Below w.heap.size w w' := by
  have HX := Lib.hid (index_next G e b g w G.AF G.fl.length G.cF G.fl hin.fl (by have := hf.f; omega) hb hg hi hf hw.fl)
  obtain ⟨r, hr⟩ : ∃ r, G.fl.any (badF G.cnt) = r := ⟨_, rfl⟩
  rw [hr] at HX ⊢
  clear hin hb hg hi hf hw hr
  go_enter Tryz.func88, Tryz.ntmps88
  go_wp2_with fail
  refine HX.out.mono ?_
  rintro e w1 ⟨i, rfl, hx, hb1⟩
  have HI := Lib.hid hx
  have B1 := Lib.hid hb1
  clear hx hb1
  by_cases h0 : 0 ≤ i
  · have hd : decide (0 ≤ i) = true := decide_eq_true h0
    have HR := Lib.hid (HI.out.1 h0)
    go_wp2_with fail
    go_ret
    exact ⟨by rw [HR.out]; rfl, B1.out⟩
  · have hd : decide (0 ≤ i) = false := decide_eq_false h0
    have hr : r = false := by cases r with
      | false => rfl
      | true => exact absurd (HI.out.2 rfl) h0
    have HR := Lib.hid hr
    clear hr
    go_wp2_with fail
    go_ret
    exact ⟨by rw [HR.out]; rfl, B1.out⟩

def AG.E (G : AG) [Decidable G.ok] : Int := if G.ok then 0 else 1
instance (G : AG) : Decidable G.ok := by unfold AG.ok; infer_instance
theorem ok_any {G : AG} (h : G.ok) : G.fl.any (badF G.cnt) = false ∧ G.ou.any (badO G.cnt) = false := by
  refine ⟨List.any_eq_false.2 fun x hx => ?_, List.any_eq_false.2 fun x hx => ?_⟩
  · unfold badF; rw [h.2.1 x hx]; simp
  · unfold badO; rw [h.2.2.1 x hx]; simp
theorem any_ok {G : AG} (hi : 0 ≤ G.I) (h1 : G.fl.any (badF G.cnt) = false) (h2 : G.ou.any (badO G.cnt) = false) (h3 : ∀ i (h : i < G.an.length), gateB G.first i G.an[i] = false) : G.ok := by
  refine ⟨hi, fun x hx => ?_, fun x hx => ?_, h3⟩
  · have := List.any_eq_false.1 h1 x hx; unfold badF at this; simpa using this
  · have := List.any_eq_false.1 h2 x hx; unfold badO at this; simpa using this
set_option maxRecDepth 100000 in
set_option maxHeartbeats 4000000 in
theorem wcheck_any (G : AG) (e : Int) (b : Nat) (w : World) (hin : G.In w) (hb : AWK G e w b) (hf : G.fit) (hw : G.wf) :
    Calls Tryz.prog 71 #[.pointer (some ⟨b, 0, none⟩)] w fun r w' => r = .returned (.int .i64 G.E) ∧ Below w.heap.size w w' := by
  have hbn := below_new w (.cells #[.pointer (some ⟨b, 0, none⟩)] 116)
  have B0 := Lib.hid hbn
  have X0 := Lib.hid (Blk.made w 116 #[.pointer (some ⟨b, 0, none⟩)])
  have HB := Lib.hid hb
  have HIN := Lib.hid hin
  have HF := Lib.hid hf
  have HW := Lib.hid hw
  obtain ⟨R, hR⟩ : ∃ R, G.E = R := ⟨_, rfl⟩
  rw [hR]
  have HR := Lib.hid hR
  have f1 := hf.i
  have f2 := hf.f
  have f3 := hf.a
  have f4 := hf.o
  clear hin hb hf hw hR
  have k0 := X0.out.cell 0
  have c0 := (Blk.keep HB.out hbn).cell 0
  have c1 := (Blk.keep HB.out hbn).cell 1
  have c2 := (Blk.keep HB.out hbn).cell 2
  have c3 := (Blk.keep HB.out hbn).cell 3
  clear hbn
  by_cases hi : G.I < 0
  · have hn : R = 1 := by rw [← HR.out]; exact if_neg fun h => by have := h.1; omega
    have HN := Lib.hid hn
    clear hn
    go_enter Tryz.func71, Tryz.ntmps71
    go_wp2_with fail
    go_ret
    exact ⟨by rw [HN.out]; rfl, B0.out⟩
  have hi0 : 0 ≤ G.I := by omega
  have hcl : G.cnt ≤ 65536 := by unfold AG.cnt; omega
  have HC := fun (W : World) (hB : Below w.heap.size w W) => count_any G e b W (Blk.keep HB.out hB) hi0 HF.out
  have HC := Lib.hid HC
  obtain ⟨ct, hct⟩ : ∃ c, G.cnt = c := ⟨_, rfl⟩
  have hcl2 : ct ≤ 65536 := by omega
  have HCT := Lib.hid hct
  rw [hct] at HC
  clear hct hcl
  go_enter Tryz.func71, Tryz.ntmps71
  go_wp2_with fail
  refine (HC.out _ B0.out).mono ?_
  rintro e1 w1 ⟨rfl, hb1⟩
  have B1 := Lib.hid (below_then B0.out hb1)
  have X1 := Lib.hid (X0.out.keep hb1)
  clear hb1 k0 c0 c1 c2 c3
  have k0 := X1.out.cell 0
  have c0 := (Blk.keep HB.out B1.out).cell 0
  have c1 := (Blk.keep HB.out B1.out).cell 1
  have c2 := (Blk.keep HB.out B1.out).cell 2
  have c3 := (Blk.keep HB.out B1.out).cell 3
  have hnx := contains_next G e b w.heap.size w1 (HIN.out.later B1.out) (Blk.keep HB.out B1.out) ⟨X1.out.cell 0, X1.out.lt⟩ hi0 HF.out HW.out
  have HNX := Lib.hid hnx
  clear hnx
  go_wp2_with fail
  refine HNX.out.mono ?_
  rintro e2 w2 ⟨rfl, hb2⟩
  have B2 := Lib.hid (below_then B1.out hb2)
  have X2 := Lib.hid (X1.out.keep hb2)
  clear hb2 k0 c0 c1 c2 c3
  cases h1 : G.fl.any (badF G.cnt) with
  | true =>
    have hn : R = 1 := by rw [← HR.out]; exact if_neg fun h => by rw [(ok_any h).1] at h1; cases h1
    have HN := Lib.hid hn
    clear hn h1
    go_wp2_with fail
    go_ret
    exact ⟨by rw [HN.out]; rfl, B2.out⟩
  | false =>
    have H1 := Lib.hid h1
    clear h1
    have k0 := X2.out.cell 0
    have c0 := (Blk.keep HB.out B2.out).cell 0
    have c1 := (Blk.keep HB.out B2.out).cell 1
    have c2 := (Blk.keep HB.out B2.out).cell 2
    have c3 := (Blk.keep HB.out B2.out).cell 3
    have hox := contains_out G e b w.heap.size w2 (HIN.out.later B2.out) (Blk.keep HB.out B2.out) ⟨X2.out.cell 0, X2.out.lt⟩ hi0 HF.out HW.out
    have HOX := Lib.hid hox
    clear hox
    go_wp2_with fail
    refine HOX.out.mono ?_
    rintro e3 w3 ⟨rfl, hb3⟩
    have B3 := Lib.hid (below_then B2.out hb3)
    have X3 := Lib.hid (X2.out.keep hb3)
    clear hb3 k0 c0 c1 c2 c3
    cases h2 : G.ou.any (badO G.cnt) with
    | true =>
      have hn : R = 1 := by rw [← HR.out]; exact if_neg fun h => by rw [(ok_any h).2] at h2; cases h2
      have HN := Lib.hid hn
      clear hn h2
      go_wp2_with fail
      go_ret
      exact ⟨by rw [HN.out]; rfl, B3.out⟩
    | false =>
      have H2 := Lib.hid h2
      clear h2
      have k0 := X3.out.cell 0
      have c2 := (Blk.keep HB.out B3.out).cell 2
      obtain ⟨AA, hAA⟩ : ∃ A, G.AA = A := ⟨_, rfl⟩
      have HAA := Lib.hid hAA
      rw [hAA] at c2
      clear hAA
      obtain ⟨w3', hw3⟩ : ∃ x, x = w3 := ⟨_, rfl⟩
      have C3 := Lib.hid (Below.refl w3.heap.size w3)
      clear hw3
      go_wp2_with fail
      go_loopw [54] (fun i wx => ∃ k : Nat, k ≤ G.an.length ∧ i = .int .i64 (k : Int) ∧ Below w3.heap.size w3 wx ∧ ∀ j (hj : j < G.an.length), j < k → gateB G.first j G.an[j] = false) (fun i _ => G.an.length - (intOf i).toNat)
      case atStart => exact ⟨0, by omega, rfl, C3.out, fun j _ hj => absurd hj (by omega)⟩
      case round =>
        obtain ⟨k, hk, rfl, hB, hg⟩ := hrel
        have B4 := Lib.hid (below_then B3.out hB)
        have C4 := Lib.hid hB
        have X4 := Lib.hid (X3.out.keep hB)
        have HG := Lib.hid hg
        clear hB hg k0 c2
        by_cases hlt : k < G.an.length
        case neg =>
          obtain rfl : k = G.an.length := by omega
          have hn : R = 0 := by rw [← HR.out]; exact if_pos (any_ok hi0 H1.out H2.out fun j hj => HG.out j hj hj)
          have HN := Lib.hid hn
          clear hn
          go_wp2_with fail
          go_ret
          exact ⟨by rw [HN.out]; rfl, B4.out⟩
        obtain ⟨g1, g2⟩ := pc_get G.an k hlt
        obtain ⟨a, hA, hab, d0, d1⟩ := (HIN.out.an.later B4.out).two g1 g2
        rw [HAA.out] at hA
        subst hA
        have hbad : gateB G.first k G.an[k] = true → R = 1 := fun hx => by
          rw [← HR.out]; exact if_neg fun h => by rw [h.2.2.2 k hlt] at hx; cases hx
        have hnext : gateB G.first k G.an[k] = false → ∀ j (hj : j < G.an.length), j < k + 1 → gateB G.first j G.an[j] = false := fun hx j hj hjk => by
          by_cases he : j = k
          · subst he; exact hx
          · exact HG.out j hj (by omega)
        have hwx := HW.out.an _ (List.getElem_mem hlt)
        have HBAD := Lib.hid hbad
        have HNXT := Lib.hid hnext
        clear hbad hnext g1 g2
        generalize G.an[k] = p at d0 d1 hwx HBAD HNXT
        obtain ⟨x, y⟩ := p
        simp only at d0 d1 hwx
        have hbn := below_new wr (.cells #[.int .i64 x, .int .i64 y] 38)
        have B5 := Lib.hid (below_then B4.out hbn)
        have C5 := Lib.hid (below_then C4.out hbn)
        have X5 := Lib.hid (X4.out.keep hbn)
        have M5 := Lib.hid (Blk.made wr 38 #[.int .i64 x, .int .i64 y])
        have k0 := X5.out.cell 0
        have hfi := fun (W : World) (hB : Below w.heap.size w W) => first_any G e b W (Blk.keep HB.out hB) hi0 HF.out
        have hF0 : 0 ≤ G.first := by unfold AG.first; omega
        have hF1 : G.first ≤ 10000 := by unfold AG.first; omega
        obtain ⟨F, hF⟩ : ∃ F, G.first = F := ⟨_, rfl⟩
        rw [hF] at hfi hF0 hF1 HBAD HNXT
        have HFI := Lib.hid hfi
        have HFQ := Lib.hid hF
        clear hfi hbn hF
        have hw2 : IntKind.i64.wrap (2 * (F + (k : Int))) = 2 * (F + (k : Int)) := IntWalk.i64_in _ (by omega)
        have hw1 : IntKind.i64.wrap (F + (k : Int)) = F + (k : Int) := IntWalk.i64_in _ (by omega)
        rcases Int.lt_trichotomy x y with hxy | hxy | hxy
        · have hyx : (y < x) = False := eq_false (by omega)
          have hyx2 : (if y < x then y else x) = x := if_neg (by omega)
          have hmn : min x y = x := by omega
          have hmx : max x y = y := by omega
          have HMN := Lib.hid hmn
          have HMX := Lib.hid hmx
          clear hmn hmx
          by_cases hm : x < 0
          · have hd : decide (x < 0) = true := decide_eq_true hm
            have hn : R = 1 := HBAD.out (by unfold gateB; simp only; rw [HMN.out, hd]; rfl)
            have HN := Lib.hid hn
            clear hn
            go_wp2_with fail
            go_quiet (fail)
            go_wp2_with fail
            go_ret
            exact ⟨by rw [HN.out]; rfl, below_drewN B5.out _⟩
          have hd : decide (x < 0) = false := decide_eq_false hm
          have HD := Lib.hid hd
          go_wp2_with fail
          go_region_held3 (fun w' => w'.cell? ⟨wr.heap.size, 0, none⟩ = some (.int .i64 x) ∧ w'.cell? ⟨wr.heap.size, 1, none⟩ = some (.int .i64 y) ∧ w'.cell? ⟨w.heap.size, 0, none⟩ = some (.pointer (some ⟨b, 0, none⟩))) (go_keep) ((first | (go_at_call 89; (with_reducible refine (HFI.out _ ?_).mono ?_); (· exact below_drewN B5.out 1); rintro e9 w9 ⟨rfl, hb9⟩; have hb9 := below_of_drew hb9; have B9 := Lib.hid (below_then B5.out hb9); have C9 := Lib.hid (below_then C5.out hb9); have M9 := M5.out.keep hb9; have j0 := M9.cell 0; have j1 := M9.cell 1; have j2 := (X5.out.keep hb9).cell 0; clear hb9 M9)))
          all_goals
            clear k0
            by_cases hq : 2 * (F + (k : Int)) ≤ y
            · have hqd : decide (2 * (F + (k : Int)) ≤ y) = true := decide_eq_true hq
              have hn : R = 1 := HBAD.out (by unfold gateB; simp only; rw [HMX.out, hqd, Bool.or_true])
              have HN := Lib.hid hn
              clear hn j0 j1 j2
              go_wp2_with fail
              go_ret
              exact ⟨by rw [HN.out]; rfl, B9.out⟩
            · have hqd : decide (2 * (F + (k : Int)) ≤ y) = false := decide_eq_false hq
              have hn := HNXT.out (by unfold gateB; simp only; rw [HMN.out, HD.out, HMX.out, hqd]; rfl)
              have HN := Lib.hid hn
              clear hn j0 j1 j2
              go_wp2_with fail
              go_roundw
              case rel => exact ⟨k + 1, by omega, by go_num, C9.out, by rw [HFQ.out]; exact HN.out⟩
              case measure => simp [intOf]; omega
        · subst hxy
          have hyx : ¬ x < x := by omega
          have hmn : min x x = x := by omega
          have hmx : max x x = x := by omega
          have HMN := Lib.hid hmn
          have HMX := Lib.hid hmx
          clear hmn hmx
          by_cases hm : x < 0
          · have hd : decide (x < 0) = true := decide_eq_true hm
            have hn : R = 1 := HBAD.out (by unfold gateB; simp only; rw [HMN.out, hd]; rfl)
            have HN := Lib.hid hn
            clear hn
            go_wp2_with fail
            go_quiet (fail)
            go_wp2_with fail
            go_ret
            exact ⟨by rw [HN.out]; rfl, below_drewN B5.out _⟩
          have hd : decide (x < 0) = false := decide_eq_false hm
          have HD := Lib.hid hd
          go_wp2_with fail
          go_region_held3 (fun w' => w'.cell? ⟨wr.heap.size, 0, none⟩ = some (.int .i64 x) ∧ w'.cell? ⟨wr.heap.size, 1, none⟩ = some (.int .i64 x) ∧ w'.cell? ⟨w.heap.size, 0, none⟩ = some (.pointer (some ⟨b, 0, none⟩))) (go_keep) ((first | (go_at_call 89; (with_reducible refine (HFI.out _ ?_).mono ?_); (· exact below_drewN B5.out 1); rintro e9 w9 ⟨rfl, hb9⟩; have hb9 := below_of_drew hb9; have B9 := Lib.hid (below_then B5.out hb9); have C9 := Lib.hid (below_then C5.out hb9); have M9 := M5.out.keep hb9; have j0 := M9.cell 0; have j1 := M9.cell 1; have j2 := (X5.out.keep hb9).cell 0; clear hb9 M9)))
          all_goals
            clear k0
            by_cases hq : 2 * (F + (k : Int)) ≤ x
            · have hqd : decide (2 * (F + (k : Int)) ≤ x) = true := decide_eq_true hq
              have hn : R = 1 := HBAD.out (by unfold gateB; simp only; rw [HMX.out, hqd, Bool.or_true])
              have HN := Lib.hid hn
              clear hn j0 j1 j2
              go_wp2_with fail
              go_ret
              exact ⟨by rw [HN.out]; rfl, B9.out⟩
            · have hqd : decide (2 * (F + (k : Int)) ≤ x) = false := decide_eq_false hq
              have hn := HNXT.out (by unfold gateB; simp only; rw [HMN.out, HD.out, HMX.out, hqd]; rfl)
              have HN := Lib.hid hn
              clear hn j0 j1 j2
              go_wp2_with fail
              go_roundw
              case rel => exact ⟨k + 1, by omega, by go_num, C9.out, by rw [HFQ.out]; exact HN.out⟩
              case measure => simp [intOf]; omega
        · have hyx : ¬ x < y := by omega
          have hmn : min x y = y := by omega
          have hmx : max x y = x := by omega
          have HMN := Lib.hid hmn
          have HMX := Lib.hid hmx
          clear hmn hmx
          by_cases hm : y < 0
          · have hd : decide (y < 0) = true := decide_eq_true hm
            have hn : R = 1 := HBAD.out (by unfold gateB; simp only; rw [HMN.out, hd]; rfl)
            have HN := Lib.hid hn
            clear hn
            go_wp2_with fail
            go_quiet (fail)
            go_wp2_with fail
            go_ret
            exact ⟨by rw [HN.out]; rfl, below_drewN B5.out _⟩
          have hd : decide (y < 0) = false := decide_eq_false hm
          have HD := Lib.hid hd
          go_wp2_with fail
          go_region_held3 (fun w' => w'.cell? ⟨wr.heap.size, 0, none⟩ = some (.int .i64 x) ∧ w'.cell? ⟨wr.heap.size, 1, none⟩ = some (.int .i64 y) ∧ w'.cell? ⟨w.heap.size, 0, none⟩ = some (.pointer (some ⟨b, 0, none⟩))) (go_keep) ((first | (go_at_call 89; (with_reducible refine (HFI.out _ ?_).mono ?_); (· exact below_drewN B5.out 1); rintro e9 w9 ⟨rfl, hb9⟩; have hb9 := below_of_drew hb9; have B9 := Lib.hid (below_then B5.out hb9); have C9 := Lib.hid (below_then C5.out hb9); have M9 := M5.out.keep hb9; have j0 := M9.cell 0; have j1 := M9.cell 1; have j2 := (X5.out.keep hb9).cell 0; clear hb9 M9)))
          all_goals
            clear k0
            by_cases hq : 2 * (F + (k : Int)) ≤ x
            · have hqd : decide (2 * (F + (k : Int)) ≤ x) = true := decide_eq_true hq
              have hn : R = 1 := HBAD.out (by unfold gateB; simp only; rw [HMX.out, hqd, Bool.or_true])
              have HN := Lib.hid hn
              clear hn j0 j1 j2
              go_wp2_with fail
              go_ret
              exact ⟨by rw [HN.out]; rfl, B9.out⟩
            · have hqd : decide (2 * (F + (k : Int)) ≤ x) = false := decide_eq_false hq
              have hn := HNXT.out (by unfold gateB; simp only; rw [HMN.out, HD.out, HMX.out, hqd]; rfl)
              have HN := Lib.hid hn
              clear hn j0 j1 j2
              go_wp2_with fail
              go_roundw
              case rel => exact ⟨k + 1, by omega, by go_num, C9.out, by rw [HFQ.out]; exact HN.out⟩
              case measure => simp [intOf]; omega
end Go.Proofs.YtaajnmggbhnndaaGreatDoor

namespace Go.Proofs.YtaajnmggbhnndaaGreatDoor
open Go.RowKit
set_option linter.unusedVariables false
set_option linter.unusedSimpArgs false

set_option maxRecDepth 100000 in
set_option maxHeartbeats 2000000 in
theorem begin_any (G : AG) (w : World) (hin : G.In w) (hf : G.fit) (hw : G.wf) :
    Calls Tryz.prog 55 #[.agg #[.int .i64 G.I, .slice G.AF G.fl.length G.cF, .slice G.AA G.an.length G.cA, .slice G.AO G.ou.length G.cO], .slice none 0 0] w fun r w' => ∃ b : Nat, r = .returned (.pointer (some ⟨b, 0, none⟩)) ∧ Below w.heap.size w w' ∧ AWK G G.E w' b := by
  have b1 := below_new w (.cells #[.int .i64 G.I, .slice G.AF G.fl.length G.cF, .slice G.AA G.an.length G.cA, .slice G.AO G.ou.length G.cO] 26)
  have b2 := below_then b1 (below_new _ (.cells #[.int .i64 G.I, .slice G.AF G.fl.length G.cF, .slice G.AA G.an.length G.cA, .slice G.AO G.ou.length G.cO, .int .i64 0] 115))
  have X2 := Blk.made (w.alloc (.cells #[.int .i64 G.I, .slice G.AF G.fl.length G.cF, .slice G.AA G.an.length G.cA, .slice G.AO G.ou.length G.cO] 26)) 115 #[.int .i64 G.I, .slice G.AF G.fl.length G.cF, .slice G.AA G.an.length G.cA, .slice G.AO G.ou.length G.cO, .int .i64 0]
  rw [World.size_alloc] at X2
  have HC := Lib.hid (wcheck_any G 0 (w.heap.size + 1) _ (hin.later b2) X2 hf hw)
  have B2 := Lib.hid b2
  have X2 := Lib.hid X2
  obtain ⟨E, hE⟩ : ∃ E, G.E = E := ⟨_, rfl⟩
  rw [hE] at HC ⊢
  clear hin hf hw b1 b2 hE
  go_enter Tryz.func55, Tryz.ntmps55
  go_wp2_with fail
  refine HC.out.mono ?_
  rintro e w1 ⟨rfl, hb1⟩
  have B3 := Lib.hid (below_then B2.out hb1)
  have X3 := Lib.hid (X2.out.keep hb1)
  have c4 := X3.out.cell 4
  have f4 := X3.out.free 4
  have B4 := Lib.hid (B3.out.setCell (p := ⟨w.heap.size + 1, 4, none⟩) (by show w.heap.size ≤ w.heap.size + 1; omega) (.int .i64 E))
  have X4 := Lib.hid (X3.out.put 4 (.int .i64 E))
  clear hb1
  go_wp2_with fail
  go_loop [18] (fun i => i = .int .i64 0) (fun _ => 0)
  case atStart => rfl
  case round =>
    subst hrel
    go_wp2_with fail
    go_ret
    exact ⟨w.heap.size + 1, rfl, B4.out, X4.out⟩
set_option maxRecDepth 100000 in
set_option maxHeartbeats 1000000 in
theorem acheck_any (G : AG) (w : World) (hin : G.In w) (hf : G.fit) (hw : G.wf) :
    Calls Tryz.prog 46 #[.agg #[.int .i64 G.I, .slice G.AF G.fl.length G.cF, .slice G.AA G.an.length G.cA, .slice G.AO G.ou.length G.cO]] w fun r w' => r = .returned (.int .i64 G.E) ∧ Below w.heap.size w w' := by
  have b1 := below_new w (.cells #[.int .i64 G.I, .slice G.AF G.fl.length G.cF, .slice G.AA G.an.length G.cA, .slice G.AO G.ou.length G.cO] 26)
  have HC := Lib.hid (begin_any G _ (hin.later b1) hf hw)
  have B1 := Lib.hid b1
  obtain ⟨E, hE⟩ : ∃ E, G.E = E := ⟨_, rfl⟩
  rw [hE] at HC ⊢
  clear hin hf hw b1 hE
  go_enter Tryz.func46, Tryz.ntmps46
  go_wp2_with fail
  refine HC.out.mono ?_
  rintro e w1 ⟨b, rfl, hb1, hx⟩
  have B2 := Lib.hid (below_then B1.out hb1)
  have c4 := hx.cell 4
  clear hb1 hx
  go_wp2_with fail
  go_ret
  exact ⟨rfl, B2.out⟩
/-! ## The document's -/
def litN (n a : Int) : Bool := decide (0 ≤ a) && decide (a < 2 * n)
set_option maxRecDepth 100000 in
theorem rlit_any (n a : Int) (w : World) (hn : 0 ≤ n ∧ n ≤ 1000000) :
    Calls Tryz.prog 65 #[.int .i64 n, .int .i64 a] w fun r w' => r = .returned (.bool (litN n a)) ∧ w = w' := by
  obtain ⟨r, hr⟩ : ∃ r, litN n a = r := ⟨_, rfl⟩
  have HR := Lib.hid hr
  rw [hr]
  clear hr
  obtain ⟨h1, h2⟩ := hn
  by_cases h0 : 0 ≤ a
  · have hd : decide (0 ≤ a) = true := decide_eq_true h0
    have HD := Lib.hid hd
    go_enter Tryz.func65, Tryz.ntmps65
    go_wp2_with fail
    go_ret
    exact ⟨by rw [← HR.out]; unfold litN; rw [HD.out]; rfl, rfl⟩
  · have hd : decide (0 ≤ a) = false := decide_eq_false h0
    have HD := Lib.hid hd
    clear hd
    go_enter Tryz.func65, Tryz.ntmps65
    go_wp2_with fail
    go_ret
    exact ⟨by rw [← HR.out]; unfold litN; rw [HD.out]; rfl, rfl⟩
set_option maxRecDepth 100000 in
theorem rcount_any (G : AG) (w : World) (hi : 0 ≤ G.I) (hf : G.fit) :
    Calls Tryz.prog 38 #[.agg #[.int .i64 G.I, .slice G.AF G.fl.length G.cF, .slice G.AA G.an.length G.cA, .slice G.AO G.ou.length G.cO]] w fun r w' => r = .returned (.int .i64 (1 + G.cnt)) ∧ Below w.heap.size w w' := by
  have B1 := Lib.hid (below_new w (.cells #[.int .i64 G.I, .slice G.AF G.fl.length G.cF, .slice G.AA G.an.length G.cA, .slice G.AO G.ou.length G.cO] 26))
  have h1 := hf.i
  have h2 := hf.f
  have h3 := hf.a
  obtain ⟨c, hc⟩ : ∃ c, 1 + G.cnt = c := ⟨_, rfl⟩
  have HC := Lib.hid hc
  rw [hc]
  clear hf hc
  go_enter Tryz.func38, Tryz.ntmps38
  go_wp2_with fail
  go_ret
  exact ⟨by rw [← HC.out, show 1 + G.cnt = 1 + G.I + (G.fl.length : Int) + (G.an.length : Int) by unfold AG.cnt; omega]; rfl, B1.out⟩
set_option maxRecDepth 100000 in
set_option maxHeartbeats 1000000 in
theorem rints_any (w : World) (A B : Option Addr) (c d : Nat) (l m : List Int) (ha : Rd w 1 A l.length c (ints l)) (hb : Rd w 1 B m.length d (ints m)) (hn : l.length ≤ 100000000) :
    Calls Tryz.prog 82 #[.slice A l.length c, .slice B m.length d] w fun r w' => r = .returned (.bool (decide (l = m))) ∧ Below w.heap.size w w' := by
  have HA := Lib.hid ha
  have HB := Lib.hid hb
  obtain ⟨r, hr⟩ : ∃ r, decide (l = m) = r := ⟨_, rfl⟩
  have HR := Lib.hid hr
  rw [hr]
  clear ha hb hr
  obtain ⟨n, hnn⟩ : ∃ n, l.length = n := ⟨_, rfl⟩
  obtain ⟨k', hkk⟩ : ∃ n, m.length = n := ⟨_, rfl⟩
  have HL := Lib.hid hnn
  have HM := Lib.hid hkk
  rw [hnn] at hn
  rw [hnn, hkk]
  rw [hnn] at HA
  rw [hkk] at HB
  by_cases he : n = k'
  case neg =>
    have hne : ((n : Int) != (k' : Int)) = true := by rw [bne_iff_ne]; omega
    have hr : r = false := by rw [← HR.out]; exact decide_eq_false fun h => he (by rw [← hnn, ← hkk, h])
    have HF := Lib.hid hr
    clear hr hnn hkk he
    go_enter Tryz.func82, Tryz.ntmps82
    go_wp2_with fail
    go_ret
    exact ⟨by rw [HF.out]; rfl, Below.refl _ _⟩
  subst he
  clear hnn hkk
  have hne : ((n : Int) != (n : Int)) = false := by simp
  go_enter Tryz.func82, Tryz.ntmps82
  go_wp2_with fail
  go_loopw [5] (fun i wx => ∃ k : Nat, k ≤ n ∧ i = .int .i64 (k : Int) ∧ l.take k = m.take k ∧ Below w.heap.size w wx) (fun i _ => n - (intOf i).toNat)
  case atStart => exact ⟨0, by omega, rfl, rfl, Below.refl _ _⟩
  case round =>
    obtain ⟨k, hk, rfl, ht, hB⟩ := hrel
    have HT := Lib.hid ht
    have B1 := Lib.hid hB
    clear ht hB
    by_cases hlt : k < n
    case neg =>
      obtain rfl : k = n := by omega
      have hr : r = true := by
        rw [← HR.out]
        have h := HT.out
        rw [List.take_of_length_le (by rw [HL.out]; exact Nat.le_refl _), List.take_of_length_le (by rw [HM.out]; exact Nat.le_refl _)] at h
        exact decide_eq_true h
      have HF := Lib.hid hr
      clear hr
      go_wp2_with fail
      go_ret
      exact ⟨by rw [HF.out]; rfl, B1.out⟩
    obtain ⟨a, rfl, -, c0⟩ := (HA.out.later B1.out).int hlt
    obtain ⟨b, rfl, -, c1⟩ := (HB.out.later B1.out).int hlt
    have t1 := take_one (show k < l.length by rw [HL.out]; exact hlt) 0
    have t2 := take_one (show k < m.length by rw [HM.out]; exact hlt) 0
    have hne : l.getD k 0 ≠ m.getD k 0 → r = false := fun h => by
      rw [← HR.out]; exact decide_eq_false fun e => h (by rw [e])
    have T1 := Lib.hid t1
    have T2 := Lib.hid t2
    have HNE := Lib.hid hne
    clear t1 t2 hne
    generalize l.getD k 0 = x at c0 T1 HNE
    generalize m.getD k 0 = y at c1 T2 HNE
    by_cases hxy : x = y
    · subst hxy
      have hx : (x != x) = false := by simp
      go_wp2_with fail
      go_quiet (fail)
      go_wp2_with fail
      go_roundw
      case rel => exact ⟨k + 1, by omega, by go_num, by rw [T1.out, T2.out, HT.out], below_drewN B1.out _⟩
      case measure => simp [intOf]; omega
    · have hx : (x != y) = true := by rw [bne_iff_ne]; exact hxy
      have hr := HNE.out hxy
      have HF := Lib.hid hr
      clear hr hxy
      go_wp2_with fail
      go_quiet (fail)
      go_wp2_with fail
      go_ret
      exact ⟨by rw [HF.out]; rfl, below_drewN B1.out _⟩
end Go.Proofs.YtaajnmggbhnndaaGreatDoor

namespace Go.Proofs.YtaajnmggbhnndaaGreatDoor
open Go.RowKit
set_option linter.unusedVariables false
set_option linter.unusedSimpArgs false

theorem litN_B (c a : Int) : litN (1 + c) a = litB c a := by
  unfold litN litB
  congr 1
  by_cases h : a < 2 * (1 + c)
  · rw [decide_eq_true h, decide_eq_true (by omega)]
  · rw [decide_eq_false h, decide_eq_false (by omega)]
theorem gate_lits (F : Int) (i : Nat) (p : Int × Int) : gateB F i p = false ↔ litN (F + (i : Int)) p.1 = true ∧ litN (F + (i : Int)) p.2 = true := by
  unfold gateB litN
  simp only [Bool.or_eq_false_iff, decide_eq_false_iff_not, Bool.and_eq_true, decide_eq_true_eq]
  omega
set_option maxRecDepth 100000 in
set_option maxHeartbeats 8000000 in
theorem rcheck18_any (G : AG) (w : World) (hin : G.In w) (hf : G.fit) :
    Calls Tryz.prog 49 #[.agg #[.int .i64 G.I, .slice G.AF G.fl.length G.cF, .slice G.AA G.an.length G.cA, .slice G.AO G.ou.length G.cO]] w fun r w' => r = .returned (.int .i64 G.E) ∧ Below w.heap.size w w' := by
  have b1 := below_new w (.cells #[.int .i64 G.I, .slice G.AF G.fl.length G.cF, .slice G.AA G.an.length G.cA, .slice G.AO G.ou.length G.cO] 26)
  have B1 := Lib.hid b1
  have X1 := Lib.hid (Blk.made w 26 #[.int .i64 G.I, .slice G.AF G.fl.length G.cF, .slice G.AA G.an.length G.cA, .slice G.AO G.ou.length G.cO])
  have HIN := Lib.hid hin
  have HF := Lib.hid hf
  obtain ⟨R, hR⟩ : ∃ R, G.E = R := ⟨_, rfl⟩
  have HR := Lib.hid hR
  rw [hR]
  have f1 := hf.i
  have f2 := hf.f
  have f3 := hf.a
  have f4 := hf.o
  have c0 := X1.out.cell 0
  clear hin hf b1 hR
  by_cases hi : G.I < 0
  · have hn : R = 1 := by rw [← HR.out]; exact if_neg fun h => by have := h.1; omega
    have HN := Lib.hid hn
    clear hn
    go_enter Tryz.func49, Tryz.ntmps49
    go_wp2_with fail
    go_ret
    exact ⟨by rw [HN.out]; rfl, B1.out⟩
  have hi0 : 0 ≤ G.I := by omega
  have c1 := X1.out.cell 1
  have c2 := X1.out.cell 2
  have c3 := X1.out.cell 3
  obtain ⟨AF, hAF⟩ : ∃ A, G.AF = A := ⟨_, rfl⟩
  obtain ⟨AA, hAA⟩ : ∃ A, G.AA = A := ⟨_, rfl⟩
  obtain ⟨AO, hAO⟩ : ∃ A, G.AO = A := ⟨_, rfl⟩
  have HAF := Lib.hid hAF
  have HAA := Lib.hid hAA
  have HAO := Lib.hid hAO
  rw [hAF, hAA, hAO]
  rw [hAF, hAA, hAO] at X1 B1
  clear hAF hAA hAO c0 c1 c2 c3
  have c0 := X1.out.cell 0
  have c1 := X1.out.cell 1
  have c2 := X1.out.cell 2
  have c3 := X1.out.cell 3
  obtain ⟨F, hF⟩ : ∃ F, G.first = F := ⟨_, rfl⟩
  have hF0 : 1 + G.I + (G.fl.length : Int) = F := hF
  have HFQ := Lib.hid hF
  have hF1 : 0 ≤ F ∧ F ≤ 10000 := by omega
  obtain ⟨hF1, hF2⟩ := hF1
  have HC := fun (W : World) => rcount_any G W hi0 HF.out
  rw [HAF.out, HAA.out, HAO.out] at HC
  obtain ⟨ct, hct⟩ : ∃ c, 1 + G.cnt = c := ⟨_, rfl⟩
  have hct1 : 0 ≤ ct ∧ ct ≤ 10000 := by rw [← hct]; unfold AG.cnt; omega
  obtain ⟨hct1, hct2⟩ := hct1
  rw [hct] at HC
  have HCT := Lib.hid hct
  have HC := Lib.hid HC
  have hlt := fun (a : Int) (W : World) => rlit_any ct a W ⟨by omega, by omega⟩
  have HLT := Lib.hid hlt
  clear hlt
  clear hF hct
  have n1 : ¬ 65536 < G.I := by omega
  have n2 : ¬ 65536 < G.I + (G.fl.length : Int) + (G.an.length : Int) := by omega
  have n3 : ¬ 65536 < (G.ou.length : Int) := by omega
  go_enter Tryz.func49, Tryz.ntmps49
  go_wp2_with fail
  clear n1 n2 n3 c0 c1 c2 c3
  generalize w.alloc (.cells #[.int .i64 G.I, .slice AF G.fl.length G.cF, .slice AA G.an.length G.cA, .slice AO G.ou.length G.cO] 26) = w1 at X1 B1 ⊢
  have C1 := Lib.hid (Below.refl w1.heap.size w1)
  go_loopw [4] (fun i wx => ∃ k : Nat, k ≤ G.an.length ∧ i = .int .i64 (k : Int) ∧ Below w1.heap.size w1 wx ∧ ∀ j (hj : j < G.an.length), j < k → gateB F j G.an[j] = false) (fun i _ => G.an.length - (intOf i).toNat)
  case atStart => exact ⟨0, by omega, rfl, C1.out, fun j _ hj => absurd hj (by omega)⟩
  case round =>
    obtain ⟨k, hk, rfl, hB, hg⟩ := hrel
    have B2 := Lib.hid (below_then B1.out hB)
    have C2 := Lib.hid hB
    have X2 := Lib.hid (X1.out.keep hB)
    have HG := Lib.hid hg
    clear hB hg C1
    have c0 := X2.out.cell 0
    have c1 := X2.out.cell 1
    have c2 := X2.out.cell 2
    have c3 := X2.out.cell 3
    by_cases hlt : k < G.an.length
    case neg =>
      obtain rfl : k = G.an.length := by omega
      have hgs : ∀ j (hj : j < G.an.length), gateB G.first j G.an[j] = false := fun j hj => by rw [HFQ.out]; exact HG.out j hj hj
      have HGS := Lib.hid hgs
      clear hgs HG
      go_wp2_with fail
      clear c0 c1 c2 c3
      obtain ⟨w2, hw2⟩ : ∃ x, x = wr := ⟨_, rfl⟩
      rw [← hw2] at B2 X2 C2
      rw [← hw2]
      clear hw2
      have C3 := Lib.hid (Below.refl w2.heap.size w2)
      go_loopw [5] (fun i wx => ∃ k : Nat, k ≤ G.fl.length ∧ i = .int .i64 (k : Int) ∧ Below w2.heap.size w2 wx ∧ ∀ f ∈ G.fl.take k, litB G.cnt f.1 = true) (fun i _ => G.fl.length - (intOf i).toNat)
      case atStart => exact ⟨0, by omega, rfl, C3.out, fun f hf => (nomatch hf)⟩
      case round =>
        obtain ⟨k, hk, rfl, hB, hg⟩ := hrel
        have B4 := Lib.hid (below_then B2.out hB)
        have C4 := Lib.hid hB
        have X4 := Lib.hid (X2.out.keep hB)
        have HG := Lib.hid hg
        clear hB hg C3
        have c0 := X4.out.cell 0
        have c1 := X4.out.cell 1
        have c2 := X4.out.cell 2
        have c3 := X4.out.cell 3
        by_cases hlt : k < G.fl.length
        case neg =>
          obtain rfl : k = G.fl.length := by omega
          have hfs : ∀ f ∈ G.fl, litB G.cnt f.1 = true := fun f hf => HG.out f (by rw [List.take_of_length_le (Nat.le_refl _)]; exact hf)
          have HFS := Lib.hid hfs
          clear hfs HG
          go_wp2_with fail
          clear c0 c1 c2 c3
          obtain ⟨w4, hw4⟩ : ∃ x, x = wr := ⟨_, rfl⟩
          rw [← hw4] at B4 X4 C4
          rw [← hw4]
          clear hw4
          have C5 := Lib.hid (Below.refl w4.heap.size w4)
          have B3 := B4
          have X3 := X4
          clear B4 X4 C4
          go_loopw [6] (fun i wx => ∃ k : Nat, k ≤ G.ou.length ∧ i = .int .i64 (k : Int) ∧ Below w4.heap.size w4 wx ∧ ∀ f ∈ G.ou.take k, litB G.cnt f = true) (fun i _ => G.ou.length - (intOf i).toNat)
          case atStart => exact ⟨0, by omega, rfl, C5.out, fun f hf => (nomatch hf)⟩
          case round =>
            obtain ⟨k, hk, rfl, hB, hg⟩ := hrel
            have B4 := Lib.hid (below_then B3.out hB)
            have C4 := Lib.hid hB
            have X4 := Lib.hid (X3.out.keep hB)
            have HG := Lib.hid hg
            clear hB hg C5
            have c0 := X4.out.cell 0
            have c1 := X4.out.cell 1
            have c2 := X4.out.cell 2
            have c3 := X4.out.cell 3
            by_cases hlt : k < G.ou.length
            case neg =>
              obtain rfl : k = G.ou.length := by omega
              have hn : R = 0 := by
                rw [← HR.out]
                exact if_pos ⟨hi0, HFS.out, fun f hf => HG.out f (by rw [List.take_of_length_le (Nat.le_refl _)]; exact hf), HGS.out⟩
              have HN := Lib.hid hn
              clear hn
              go_wp2_with fail
              go_ret
              exact ⟨by rw [HN.out]; rfl, B4.out⟩
            have hmem : G.ou.getD k 0 ∈ G.ou := by rw [List.getD_eq_getElem?_getD, List.getElem?_eq_getElem hlt]; exact List.getElem_mem hlt
            obtain ⟨a, hA, hab, d0⟩ := (HIN.out.ou.later B4.out).int hlt
            rw [HAO.out] at hA
            subst hA
            have htk := take_one hlt 0
            have hbad : litB G.cnt (G.ou.getD k 0) = false → R = 1 := fun hx => by
              rw [← HR.out]; exact if_neg fun h => by have := h.2.2.1 _ hmem; rw [hx] at this; cases this
            have HTK := Lib.hid htk
            have HBAD := Lib.hid hbad
            clear htk hbad hmem
            generalize G.ou.getD k 0 = x at d0 HTK HBAD
            obtain ⟨ad, had⟩ : ∃ ad, a.add k = ad := ⟨_, rfl⟩
            have hadb : ad.block < wr.heap.size := by rw [← had, add_block]; exact hab
            rw [had] at d0
            have HAD := Lib.hid had
            clear hab
            go_wp2_with fail
            go_region_held3 (fun w' => w'.cell? ⟨w.heap.size, 0, none⟩ = some (.int .i64 G.I) ∧ w'.cell? ⟨w.heap.size, 1, none⟩ = some (.slice AF G.fl.length G.cF) ∧ w'.cell? ⟨w.heap.size, 2, none⟩ = some (.slice AA G.an.length G.cA) ∧ w'.cell? ⟨w.heap.size, 3, none⟩ = some (.slice (some a) G.ou.length G.cO) ∧ w'.cell? ad = some (.int .i64 x)) (go_keep) ((first | (go_at_call 38; (with_reducible refine (HC.out _).mono ?_); rintro e5 w5 ⟨rfl, hb5⟩; have hb5 := below_of_drew hb5; have B5 := Lib.hid (below_then B4.out hb5); have C5 := Lib.hid (below_then C4.out hb5); have X5 := X4.out.keep hb5; have j0 := X5.cell 0; have j1 := X5.cell 1; have j2 := X5.cell 2; have j3 := X5.cell 3; have j4 := (hb5.cell (p := ad) hadb).trans d0; clear hb5 X5) | (go_at_call 65; (with_reducible refine (HLT.out _ _).mono ?_); rintro e6 w6 ⟨rfl, rfl⟩)))
            all_goals
              clear j0 j1 j2 j3 j4 c0 c1 c2 c3 d0
              cases h1 : litN ct x with
              | false =>
                have HN := Lib.hid (HBAD.out (by rw [← litN_B, HCT.out]; exact h1))
                clear h1
                go_wp2_with fail
                go_ret
                exact ⟨by rw [HN.out]; rfl, B5.out⟩
              | true =>
                have HN := Lib.hid (show litB G.cnt x = true by rw [← litN_B, HCT.out]; exact h1)
                clear h1
                go_wp2_with fail
                go_roundw
                case rel => exact ⟨k + 1, by omega, by go_num, C5.out, fun f hf => by
                  rw [HTK.out] at hf
                  rcases List.mem_append.1 hf with hf | hf
                  · exact HG.out f hf
                  · rw [List.mem_singleton.1 hf]; exact HN.out⟩
                case measure => simp [intOf]; omega
        have hmem : G.fl[k] ∈ G.fl := List.getElem_mem hlt
        obtain ⟨g1, g2⟩ := fc_get G.fl k hlt
        obtain ⟨a, hA, hab, d0, -⟩ := (HIN.out.fl.later B4.out).two g1 g2
        rw [HAF.out] at hA
        subst hA
        have htk : G.fl.take (k + 1) = G.fl.take k ++ [G.fl[k]] := by rw [List.take_add_one, List.getElem?_eq_getElem hlt]; rfl
        have hbad : litB G.cnt G.fl[k].1 = false → R = 1 := fun hx => by
          rw [← HR.out]; exact if_neg fun h => by have := h.2.1 _ hmem; rw [hx] at this; cases this
        have HTK := Lib.hid htk
        have HBAD := Lib.hid hbad
        clear htk hbad hmem g1 g2
        generalize G.fl[k] = p at d0 HTK HBAD
        obtain ⟨x, y⟩ := p
        simp only at d0
        have HBAD := Lib.hid (show litB G.cnt x = false → R = 1 from HBAD.out)
        obtain ⟨ad, had⟩ : ∃ ad, a.add (k * 2) = ad := ⟨_, rfl⟩
        have hadb : ad.block < wr.heap.size := by rw [← had, add_block]; exact hab
        rw [had] at d0
        have HAD := Lib.hid had
        clear hab
        go_wp2_with fail
        go_region_held3 (fun w' => w'.cell? ⟨w.heap.size, 0, none⟩ = some (.int .i64 G.I) ∧ w'.cell? ⟨w.heap.size, 1, none⟩ = some (.slice (some a) G.fl.length G.cF) ∧ w'.cell? ⟨w.heap.size, 2, none⟩ = some (.slice AA G.an.length G.cA) ∧ w'.cell? ⟨w.heap.size, 3, none⟩ = some (.slice AO G.ou.length G.cO) ∧ w'.cell? ad = some (.int .i64 x)) (go_keep) ((first | (go_at_call 38; (with_reducible refine (HC.out _).mono ?_); rintro e5 w5 ⟨rfl, hb5⟩; have hb5 := below_of_drew hb5; have B5 := Lib.hid (below_then B4.out hb5); have C5 := Lib.hid (below_then C4.out hb5); have X5 := X4.out.keep hb5; have j0 := X5.cell 0; have j1 := X5.cell 1; have j2 := X5.cell 2; have j3 := X5.cell 3; have j4 := (hb5.cell (p := ad) hadb).trans d0; clear hb5 X5) | (go_at_call 65; (with_reducible refine (HLT.out _ _).mono ?_); rintro e6 w6 ⟨rfl, rfl⟩)))
        all_goals
          clear j0 j1 j2 j3 j4 c0 c1 c2 c3 d0
          cases h1 : litN ct x with
          | false =>
            have HN := Lib.hid (HBAD.out (by rw [← litN_B, HCT.out]; exact h1))
            clear h1
            go_wp2_with fail
            go_ret
            exact ⟨by rw [HN.out]; rfl, B5.out⟩
          | true =>
            have HN := Lib.hid (show litB G.cnt x = true by rw [← litN_B, HCT.out]; exact h1)
            clear h1
            go_wp2_with fail
            go_roundw
            case rel => exact ⟨k + 1, by omega, by go_num, C5.out, fun f hf => by
              rw [HTK.out] at hf
              rcases List.mem_append.1 hf with hf | hf
              · exact HG.out f hf
              · rw [List.mem_singleton.1 hf]; exact HN.out⟩
            case measure => simp [intOf]; omega
    obtain ⟨g1, g2⟩ := pc_get G.an k hlt
    obtain ⟨a, hA, hab, d0, d1⟩ := (HIN.out.an.later B2.out).two g1 g2
    rw [HAA.out] at hA
    subst hA
    have hbad : gateB F k G.an[k] = true → R = 1 := fun hx => by
      rw [← HR.out]; exact if_neg fun h => by have := h.2.2.2 k hlt; rw [HFQ.out, hx] at this; cases this
    have hnext : gateB F k G.an[k] = false → ∀ j (hj : j < G.an.length), j < k + 1 → gateB F j G.an[j] = false := fun hx j hj hjk => by
      by_cases he : j = k
      · subst he; exact hx
      · exact HG.out j hj (by omega)
    have HBAD := Lib.hid hbad
    have HNXT := Lib.hid hnext
    clear hbad hnext g1 g2
    generalize G.an[k] = p at d0 d1 HBAD HNXT
    obtain ⟨x, y⟩ := p
    simp only at d0 d1
    have hgl := gate_lits F k (x, y)
    simp only at hgl
    have HGL := Lib.hid hgl
    have hwk : IntKind.i64.wrap (F + (k : Int)) = F + (k : Int) := IntWalk.i64_in _ (by omega)
    have hn : 0 ≤ F + (k : Int) ∧ F + (k : Int) ≤ 1000000 := by omega
    have HL := fun (a : Int) (W : World) => rlit_any (F + (k : Int)) a W hn
    have HL := Lib.hid HL
    clear hgl hn
    go_wp2_with fail
    refine (HL.out x _).mono ?_
    rintro e1 w3 ⟨rfl, rfl⟩
    cases h1 : litN (F + (k : Int)) x with
    | false =>
      have hg : gateB F k (x, y) = true := by
        cases hgb : gateB F k (x, y) with
        | true => rfl
        | false => have := (HGL.out.1 hgb).1; rw [h1] at this; cases this
      have HN := Lib.hid (HBAD.out hg)
      clear hg h1
      go_wp2_with fail
      go_ret
      exact ⟨by rw [HN.out]; rfl, B2.out⟩
    | true =>
      have H1 := Lib.hid h1
      clear h1
      go_wp2_with fail
      refine (HL.out y _).mono ?_
      rintro e1 w3 ⟨rfl, rfl⟩
      cases h2 : litN (F + (k : Int)) y with
      | false =>
        have hg : gateB F k (x, y) = true := by
          cases hgb : gateB F k (x, y) with
          | true => rfl
          | false => have := (HGL.out.1 hgb).2; rw [h2] at this; cases this
        have HN := Lib.hid (HBAD.out hg)
        clear hg h2
        go_wp2_with fail
        go_ret
        exact ⟨by rw [HN.out]; rfl, B2.out⟩
      | true =>
        have HN := Lib.hid (HNXT.out (HGL.out.2 ⟨H1.out, h2⟩))
        clear h2
        go_wp2_with fail
        go_roundw
        case rel => exact ⟨k + 1, by omega, by go_num, C2.out, HN.out⟩
        case measure => simp [intOf]; omega
end Go.Proofs.YtaajnmggbhnndaaGreatDoor
