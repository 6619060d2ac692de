/- Gates that came in, as plain data; walks of filigree/aig's check. -/
import Derived.Test.YtkhlllbceceikaaDoorMem
namespace Go.Proofs.YtkhlllbceceikaaDoor
open Go.RowKit
set_option linter.unusedVariables false
set_option linter.unusedSimpArgs false

/-- gates, as plain data, and where they lie -/
structure AG where
  I : Int
  AF : Option Addr
  cF : Nat
  fl : List (Int × Bool)
  AA : Option Addr
  cA : Nat
  an : List (Int × Int)
  AO : Option Addr
  cO : Nat
  ou : List Int
def fc (xs : List (Int × Bool)) : List Value := xs.flatMap fun p => [.int .i64 p.1, .bool p.2]
theorem fc_length (l : List (Int × Bool)) : (fc l).length = l.length * 2 := by
  induction l with
  | nil => rfl
  | cons x l ih => simp only [fc, List.flatMap_cons, List.length_append] at ih ⊢; simp only [List.length_cons, List.length_nil] at ih ⊢; omega
theorem pc_length (l : List (Int × Int)) : (pc l).length = l.length * 2 := by
  induction l with
  | nil => rfl
  | cons x l ih => simp only [pc, List.flatMap_cons, List.length_append] at ih ⊢; simp only [List.length_cons, List.length_nil] at ih ⊢; omega
theorem fc_get : ∀ (l : List (Int × Bool)) (k : Nat) (hk : k < l.length), (fc l)[k * 2]? = some (.int .i64 l[k].1) ∧ (fc l)[k * 2 + 1]? = some (.bool l[k].2)
  | x :: l, 0, _ => ⟨rfl, rfl⟩
  | x :: l, k + 1, hk => by
    have ih := fc_get l k (by simpa using hk)
    have e : fc (x :: l) = [.int .i64 x.1, .bool x.2] ++ fc l := rfl
    rw [e, List.getElem?_append_right (by simp; omega), List.getElem?_append_right (by simp; omega)]
    simp only [List.length_cons, List.length_nil, List.getElem_cons_succ]
    rw [show (k + 1) * 2 - (0 + 1 + 1) = k * 2 by omega, show (k + 1) * 2 + 1 - (0 + 1 + 1) = k * 2 + 1 by omega]
    exact ih
theorem pc_get : ∀ (l : List (Int × Int)) (k : Nat) (hk : k < l.length), (pc l)[k * 2]? = some (.int .i64 l[k].1) ∧ (pc l)[k * 2 + 1]? = some (.int .i64 l[k].2)
  | x :: l, 0, _ => ⟨rfl, rfl⟩
  | x :: l, k + 1, hk => by
    have ih := pc_get l k (by simpa using hk)
    have e : pc (x :: l) = [.int .i64 x.1, .int .i64 x.2] ++ pc l := rfl
    rw [e, List.getElem?_append_right (by simp; omega), List.getElem?_append_right (by simp; omega)]
    simp only [List.length_cons, List.length_nil, List.getElem_cons_succ]
    rw [show (k + 1) * 2 - (0 + 1 + 1) = k * 2 by omega, show (k + 1) * 2 + 1 - (0 + 1 + 1) = k * 2 + 1 by omega]
    exact ih
theorem Rd.two {w : World} {A : Option Addr} {n c k : Nat} {xs : List Value} {u v : Value} (h : Rd w 2 A n c xs) (h0 : xs[k * 2]? = some u) (h1 : xs[k * 2 + 1]? = some v) :
    ∃ a, A = some a ∧ a.block < w.heap.size ∧ w.cell? (a.add (k * 2)) = some u ∧ w.cell? ⟨(a.add (k * 2)).block, (a.add (k * 2)).off + 1, none⟩ = some v := by
  obtain ⟨a, e, hb, c0⟩ := h.read _ _ h0
  obtain ⟨a2, e2, -, c1⟩ := h.read _ _ h1
  rw [e] at e2
  injection e2 with e2
  subst e2
  exact ⟨a, e, hb, c0, by rw [add_field a (k * 2) 1 (by omega)]; exact c1⟩
structure AG.In (G : AG) (w : World) : Prop where
  fl : Rd w 2 G.AF G.fl.length G.cF (fc G.fl)
  an : Rd w 2 G.AA G.an.length G.cA (pc G.an)
  ou : Rd w 1 G.AO G.ou.length G.cO (ints G.ou)
theorem AG.In.later {G : AG} {w w' : World} (h : G.In w) (hb : Below w.heap.size w w') : G.In w' := ⟨h.fl.later hb, h.an.later hb, h.ou.later hb⟩
/-- small enough for the walks -/
structure AG.fit (G : AG) : Prop where
  i : G.I ≤ 1000
  f : G.fl.length ≤ 1000
  a : G.an.length ≤ 1000
  o : G.ou.length ≤ 1000
/-- how many nodes there are but the first; the node of the first gate -/
def AG.cnt (G : AG) : Int := G.I + (G.fl.length : Int) + (G.an.length : Int)
def AG.first (G : AG) : Int := 1 + G.I + (G.fl.length : Int)
def litB (c a : Int) : Bool := decide (0 ≤ a) && decide (a / 2 ≤ c)
def gateB (F : Int) (i : Nat) (p : Int × Int) : Bool := decide (min p.1 p.2 < 0) || decide (2 * (F + (i : Int)) ≤ max p.1 p.2)
/-- may gates be? -/
def AG.ok (G : AG) : Prop := 0 ≤ G.I ∧ (∀ f ∈ G.fl, litB G.cnt f.1 = true) ∧ (∀ x ∈ G.ou, litB G.cnt x = true) ∧ ∀ i (h : i < G.an.length), gateB G.first i G.an[i] = false
def AG.work (G : AG) (e : Int) : Array Value := #[.int .i64 G.I, .slice G.AF G.fl.length G.cF, .slice G.AA G.an.length G.cA, .slice G.AO G.ou.length G.cO, .int .i64 e]
def AWK (G : AG) (e : Int) (w : World) (b : Nat) : Prop := Blk w b 78 #[.int .i64 G.I, .slice G.AF G.fl.length G.cF, .slice G.AA G.an.length G.cA, .slice G.AO G.ou.length G.cO, .int .i64 e]

set_option maxRecDepth 100000 in
set_option maxHeartbeats 1000000 in
theorem count_any (G : AG) (e : Int) (b : Nat) (w : World) (hb : AWK G e w b) (hi : 0 ≤ G.I) (hf : G.fit) :
    Calls Tryd.prog 48 #[.pointer (some ⟨b, 0, none⟩)] w fun r w' => r = .returned (.int .i64 G.cnt) ∧ Below w.heap.size w w' := by
  have k0 := hb.cell 0
  have k1 := hb.cell 1
  have k2 := hb.cell 2
  have h1 := hf.i
  have h2 := hf.f
  have h3 := hf.a
  obtain ⟨c, hc⟩ : ∃ c, G.cnt = c := ⟨_, rfl⟩
  have HC := Lib.hid hc
  rw [hc]
  clear hb hf hc
  go_enter Tryd.func48, Tryd.ntmps48
  go_wp2_with fail
  go_quiet (fail)
  go_wp2_with fail
  go_ret
  exact ⟨by rw [← HC.out]; rfl, below_drewN (Below.refl _ _) _⟩
set_option maxRecDepth 100000 in
set_option maxHeartbeats 1000000 in
theorem first_any (G : AG) (e : Int) (b : Nat) (w : World) (hb : AWK G e w b) (hi : 0 ≤ G.I) (hf : G.fit) :
    Calls Tryd.prog 47 #[.pointer (some ⟨b, 0, none⟩)] w fun r w' => r = .returned (.int .i64 G.first) ∧ Below w.heap.size w w' := by
  have k0 := hb.cell 0
  have k1 := hb.cell 1
  have h1 := hf.i
  have h2 := hf.f
  obtain ⟨c, hc⟩ : ∃ c, G.first = c := ⟨_, rfl⟩
  have HC := Lib.hid hc
  rw [hc]
  clear hb hf hc
  go_enter Tryd.func47, Tryd.ntmps47
  go_wp2_with fail
  go_quiet (fail)
  go_wp2_with fail
  go_ret
  exact ⟨by rw [← HC.out]; rfl, below_drewN (Below.refl _ _) _⟩
set_option maxRecDepth 100000 in
set_option maxHeartbeats 1000000 in
theorem lit_any (G : AG) (e a : Int) (b : Nat) (w : World) (hb : AWK G e w b) (hi : 0 ≤ G.I) (hf : G.fit) (ha : a ≤ 9223372036854775807) :
    Calls Tryd.prog 63 #[.pointer (some ⟨b, 0, none⟩), .int .i64 a] w fun r w' => r = .returned (.bool (litB G.cnt a)) ∧ Below w.heap.size w w' := by
  obtain ⟨r, hr⟩ : ∃ r, litB G.cnt a = r := ⟨_, rfl⟩
  have HR := Lib.hid hr
  rw [hr]
  have HCNT := Lib.hid (count_any G e b w hb hi hf)
  obtain ⟨c, hc⟩ : ∃ c, G.cnt = c := ⟨_, rfl⟩
  rw [hc] at HCNT HR
  clear hb hi hf hc hr
  by_cases h0 : 0 ≤ a
  · have hd : Int.tdiv a 2 = a / 2 := Int.tdiv_eq_ediv_of_nonneg h0
    have hd0 : 0 ≤ a / 2 := by omega
    have hdw : IntKind.i64.wrap (a / 2) = a / 2 := IntWalk.i64_in _ (by omega)
    have hdv : wrap64 (a / 2) = a / 2 := by unfold wrap64; omega
    go_enter Tryd.func63, Tryd.ntmps63
    go_wp2_with fail
    refine HCNT.out.mono ?_
    rintro e w1 ⟨rfl, hb1⟩
    have B1 := Lib.hid hb1
    clear hb1
    go_wp2_with fail
    go_ret
    exact ⟨by rw [← HR.out]; unfold litB; rw [decide_eq_true h0]; rfl, B1.out⟩
  · have hl : decide (0 ≤ a) = false := decide_eq_false h0
    have HL := Lib.hid hl
    clear hl
    go_enter Tryd.func63, Tryd.ntmps63
    go_wp2_with fail
    go_ret
    exact ⟨by rw [← HR.out]; unfold litB; rw [HL.out]; rfl, Below.refl _ _⟩

/-! ## The closures, and what holds them -/
/-- a flop whose next is no literal -/
def badF (c : Int) (f : Int × Bool) : Bool := !litB c f.1
def badO (c : Int) (a : Int) : Bool := !litB c a
def wBox (b g : Nat) (w : World) : Prop := w.cell? ⟨g, 0, none⟩ = some (.pointer (some ⟨b, 0, none⟩)) ∧ g < w.heap.size
set_option maxRecDepth 100000 in
set_option maxHeartbeats 1000000 in
theorem next_bad (G : AG) (e : Int) (b g : Nat) (x : Int) (y : Bool) (w : World) (hb : AWK G e w b) (hg : wBox b g w) (hi : 0 ≤ G.I) (hf : G.fit) (ha : x ≤ 9223372036854775807) :
    Calls Tryd.prog 84 #[.agg #[.int .i64 x, .bool y], .pointer (some ⟨g, 0, none⟩)] w fun r w' => r = .returned (.bool (badF G.cnt (x, y))) ∧ Below w.heap.size w w' := by
  have hn := below_new w (.cells #[.int .i64 x, .bool y] 93)
  have HL := Lib.hid (lit_any G e x b _ (Blk.keep hb hn) hi hf ha)
  have B0 := Lib.hid hn
  have k0 : (w.alloc (.cells #[.int .i64 x, .bool y] 93)).cell? ⟨g, 0, none⟩ = some (.pointer (some ⟨b, 0, none⟩)) := (hn.cell (p := ⟨g, 0, none⟩) hg.2).trans hg.1
  have hgl := hg.2
  have kk := hg.1
  obtain ⟨r, hr⟩ : ∃ r, litB G.cnt x = r := ⟨_, rfl⟩
  rw [hr] at HL
  have HR := Lib.hid hr
  clear hb hg hi hf hn hr
  go_enter Tryd.func84, Tryd.ntmps84
  go_wp2_with fail
  refine HL.out.mono ?_
  rintro e w1 ⟨rfl, hb1⟩
  have B1 := Lib.hid (below_then B0.out hb1)
  clear hb1
  go_wp2_with fail
  go_ret
  exact ⟨by unfold badF; rw [HR.out]; rfl, B1.out⟩
set_option maxRecDepth 100000 in
set_option maxHeartbeats 1000000 in
theorem out_bad (G : AG) (e : Int) (b g : Nat) (x : Int) (w : World) (hb : AWK G e w b) (hg : wBox b g w) (hi : 0 ≤ G.I) (hf : G.fit) (ha : x ≤ 9223372036854775807) :
    Calls Tryd.prog 85 #[.int .i64 x, .pointer (some ⟨g, 0, none⟩)] w fun r w' => r = .returned (.bool (badO G.cnt x)) ∧ Below w.heap.size w w' := by
  have HL := Lib.hid (lit_any G e x b _ hb hi hf ha)
  have kk := hg.1
  obtain ⟨r, hr⟩ : ∃ r, litB G.cnt x = r := ⟨_, rfl⟩
  rw [hr] at HL
  have HR := Lib.hid hr
  clear hb hg hi hf hr
  go_enter Tryd.func85, Tryd.ntmps85
  go_wp2_with fail
  refine HL.out.mono ?_
  rintro e w1 ⟨rfl, hb1⟩
  have B1 := Lib.hid hb1
  clear hb1
  go_wp2_with fail
  go_ret
  exact ⟨by unfold badO; rw [HR.out]; rfl, B1.out⟩
def IndexA (y : Bool) (w : World) (e : Ending) (w' : World) : Prop := ∃ i : Int, e = .returned (.int .i64 i) ∧ (0 ≤ i ↔ y = true) ∧ Below w.heap.size w w'
set_option maxRecDepth 100000 in
set_option maxHeartbeats 2000000 in
theorem index_out (G : AG) (e : Int) (b g : Nat) (w : World) (A : Option Addr) (n c : Nat) (l : List Int) (hr : Rd w 1 A n c (ints l)) (hn : n ≤ 100000) (hb : AWK G e w b) (hg : wBox b g w) (hi : 0 ≤ G.I) (hf : G.fit) (ha : ∀ x ∈ l, x ≤ 9223372036854775807) :
    Calls Tryd.prog 98 #[.slice A n c, .func (.func 85) #[] #[.pointer (some ⟨g, 0, none⟩)]] w (IndexA (l.any (badO G.cnt)) w) := by
  have hl : n = l.length := by have := hr.len; rw [ints_length] at this; omega
  have HL := Lib.hid hl
  have HR := Lib.hid hr
  have HB := Lib.hid hb
  have HG := Lib.hid hg
  have HA := Lib.hid ha
  have HF := Lib.hid hf
  clear hl hr hb hg ha hf
  go_enter Tryd.func98, Tryd.ntmps98
  go_wp2_with fail
  go_loopw [8] (fun i wx => ∃ k : Nat, k ≤ n ∧ i = .int .i64 (k : Int) ∧ (l.take k).any (badO G.cnt) = false ∧ Below w.heap.size w wx) (fun i _ => n - (intOf i).toNat)
  case atStart => exact ⟨0, by omega, rfl, by simp, Below.refl _ _⟩
  case round =>
    obtain ⟨k, hk, rfl, hno, hB⟩ := hrel
    have HN := Lib.hid hno
    have B1 := Lib.hid hB
    clear hno hB
    by_cases hlt : k < n
    · obtain ⟨a, rfl, hab, c0⟩ := (HR.out.later B1.out).int hlt
      have hk' : k < l.length := by rw [← HL.out]; exact hlt
      have hg : l.getD k 0 = l[k] := by rw [List.getD_eq_getElem?_getD, List.getElem?_eq_getElem hk']; rfl
      rw [hg] at c0
      have htk : (l.take (k + 1)).any (badO G.cnt) = ((l.take k).any (badO G.cnt) || badO G.cnt l[k]) := by
        rw [List.take_succ_eq_append_getElem hk', List.any_append]; simp
      have hmem : badO G.cnt l[k] = true → l.any (badO G.cnt) = true := fun hx => List.any_eq_true.2 ⟨l[k], List.getElem_mem hk', hx⟩
      have hmx := HA.out _ (List.getElem_mem hk')
      have HT := Lib.hid htk
      have HM := Lib.hid hmem
      clear htk hmem hg
      generalize l[k] = t at c0 HT HM hmx
      have hcl := out_bad G e b g t wr (Blk.keep HB.out B1.out) ⟨(B1.out.cell (p := ⟨g, 0, none⟩) HG.out.2).trans HG.out.1, Nat.lt_of_lt_of_le HG.out.2 B1.out.size⟩ hi HF.out hmx
      have HCL := Lib.hid hcl
      clear hcl
      go_wp2_with fail
      refine HCL.out.mono ?_
      rintro e w1 ⟨rfl, hb1⟩
      have B2 := Lib.hid (below_then B1.out hb1)
      clear hb1
      cases ho : badO G.cnt t with
      | true =>
        go_wp2_with fail
        go_ret
        exact ⟨(k : Int), rfl, ⟨fun _ => HM.out ho, fun _ => by omega⟩, B2.out⟩
      | false =>
        go_wp2_with fail
        go_roundw
        case rel => exact ⟨k + 1, by omega, by go_num, by rw [HT.out, HN.out, ho]; rfl, B2.out⟩
        case measure => simp [intOf]; omega
    · obtain rfl : k = n := by omega
      go_wp2_with fail
      go_ret
      refine ⟨-1, rfl, ⟨fun h => absurd h (by omega), fun h => ?_⟩, B1.out⟩
      have := HN.out
      rw [List.take_of_length_le (by rw [← HL.out]; exact Nat.le_refl _)] at this
      rw [this] at h
      cases h
set_option maxRecDepth 100000 in
set_option maxHeartbeats 2000000 in
theorem index_next (G : AG) (e : Int) (b g : Nat) (w : World) (A : Option Addr) (n c : Nat) (l : List (Int × Bool)) (hr : Rd w 2 A n c (fc l)) (hn : n ≤ 100000) (hb : AWK G e w b) (hg : wBox b g w) (hi : 0 ≤ G.I) (hf : G.fit) (ha : ∀ x ∈ l, x.1 ≤ 9223372036854775807) :
    Calls Tryd.prog 97 #[.slice A n c, .func (.func 84) #[] #[.pointer (some ⟨g, 0, none⟩)]] w (IndexA (l.any (badF G.cnt)) w) := by
  have hl : n = l.length := by have := hr.len; rw [fc_length] at this; omega
  have HL := Lib.hid hl
  have HR := Lib.hid hr
  have HB := Lib.hid hb
  have HG := Lib.hid hg
  have HA := Lib.hid ha
  have HF := Lib.hid hf
  clear hl hr hb hg ha hf
  go_enter Tryd.func97, Tryd.ntmps97
  go_wp2_with fail
  go_loopw [8] (fun i wx => ∃ k : Nat, k ≤ n ∧ i = .int .i64 (k : Int) ∧ (l.take k).any (badF G.cnt) = false ∧ Below w.heap.size w wx) (fun i _ => n - (intOf i).toNat)
  case atStart => exact ⟨0, by omega, rfl, by simp, Below.refl _ _⟩
  case round =>
    obtain ⟨k, hk, rfl, hno, hB⟩ := hrel
    have HN := Lib.hid hno
    have B1 := Lib.hid hB
    clear hno hB
    by_cases hlt : k < n
    · have hk' : k < l.length := by rw [← HL.out]; exact hlt
      obtain ⟨g1, g2⟩ := fc_get l k hk'
      obtain ⟨a, rfl, hab, c0, c1⟩ := (HR.out.later B1.out).two g1 g2
      have htk : (l.take (k + 1)).any (badF G.cnt) = ((l.take k).any (badF G.cnt) || badF G.cnt l[k]) := by
        rw [List.take_succ_eq_append_getElem hk', List.any_append]; simp
      have hmem : badF G.cnt l[k] = true → l.any (badF G.cnt) = true := fun hx => List.any_eq_true.2 ⟨l[k], List.getElem_mem hk', hx⟩
      have hmx := HA.out _ (List.getElem_mem hk')
      have HT := Lib.hid htk
      have HM := Lib.hid hmem
      clear htk hmem g1 g2
      generalize l[k] = t at c0 c1 HT HM hmx
      obtain ⟨x, y⟩ := t
      simp only at c0 c1 hmx
      have hcl := next_bad G e b g x y wr (Blk.keep HB.out B1.out) ⟨(B1.out.cell (p := ⟨g, 0, none⟩) HG.out.2).trans HG.out.1, Nat.lt_of_lt_of_le HG.out.2 B1.out.size⟩ hi HF.out hmx
      have HCL := Lib.hid hcl
      clear hcl
      go_wp2_with fail
      refine HCL.out.mono ?_
      rintro e w1 ⟨rfl, hb1⟩
      have B2 := Lib.hid (below_then B1.out hb1)
      clear hb1
      cases ho : badF G.cnt (x, y) with
      | true =>
        go_wp2_with fail
        go_ret
        exact ⟨(k : Int), rfl, ⟨fun _ => HM.out ho, fun _ => by omega⟩, B2.out⟩
      | false =>
        go_wp2_with fail
        go_roundw
        case rel => exact ⟨k + 1, by omega, by go_num, by rw [HT.out, HN.out, ho]; rfl, B2.out⟩
        case measure => simp [intOf]; omega
    · obtain rfl : k = n := by omega
      go_wp2_with fail
      go_ret
      refine ⟨-1, rfl, ⟨fun h => absurd h (by omega), fun h => ?_⟩, B1.out⟩
      have := HN.out
      rw [List.take_of_length_le (by rw [← HL.out]; exact Nat.le_refl _)] at this
      rw [this] at h
      cases h
end Go.Proofs.YtkhlllbceceikaaDoor
