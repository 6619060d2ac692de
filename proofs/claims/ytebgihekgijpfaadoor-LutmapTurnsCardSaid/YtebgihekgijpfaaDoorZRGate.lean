/- slices.Grow, slices.Concat at []int. · Slices of slices; appends of whole rows; what one change leaves alone. · filigreeref24.Merge. · filigreeref24.deep, ahead; which set of leaves is ahead of another, plainly. · filigreeref24.put. · filigreeref24.gate: the sets of a gate. -/
import Derived.Test.YtebgihekgijpfaaDoorZMem
import Derived.Lib.AppendZerosOnto
import Derived.Lib.Walk
import Derived.Lib.SliceRun
import Derived.Test.YtebgihekgijpfaaDoorZRTbl
import Derived.Test.YtebgihekgijpfaaDoorZAig
namespace Go.Proofs.YtebgihekgijpfaaDoor
open Go.RowKit
set_option linter.unusedVariables false
set_option linter.unusedSimpArgs false

set_option maxRecDepth 100000 in
set_option maxHeartbeats 1000000 in
theorem grow_none (w : World) : Calls Tryd.prog 82 #[.slice none 0 0, .int .i64 0] w fun e w' => e = .returned (.slice none 0 0) ∧ w = w' := by
  go_enter Tryd.func82, Tryd.ntmps82
  go_wp2_with fail
  go_ret
  exact ⟨rfl, rfl⟩
set_option maxRecDepth 100000 in
set_option maxHeartbeats 1000000 in
theorem grow_some (n : Nat) (w : World) (h0 : 0 < n) (hn : n ≤ 100000000) :
    Calls Tryd.prog 82 #[.slice none 0 0, .int .i64 (n : Int)] w fun e w' => ∃ A c, e = .returned (.slice A 0 c) ∧ Below w.heap.size w w' ∧ w'.ownsRow w.heap.size 3 1 (.slice A 0 c) 0 [] := by
  obtain ⟨i0, hi0, hz0, hz1, hz2⟩ := info_parts int_info
  have hold : (Builtin.firstCells i0.size 0 (.slice none 0 0)).run Tryd.prog w.drew = .ok ([] : List Value).toArray w.drew := run_firstCells_none w.drew i0.size 0 0 0
  have hrz : ∀ ty, (Builtin.append_ #[24, 3] ty #[.slice none 0 0, .int .i64 (n : Int)]).run Tryd.prog w =
      .ok (.slice (some ⟨w.heap.size, 0, none⟩) (0 + n) (grownCap w (0 + n) 0 3)) (w.drew.alloc (.cells (([] : List Value).toArray ++ Builtin.zeroCells (Value.int .i64 0).cells n ++ Builtin.zeroCells (Value.int .i64 0).cells (grownCap w (0 + n) 0 3 - (0 + n))) 3)) := fun ty =>
    Lib.run_append_grow_zeros w 24 3 ty 3 i0 (.int .i64 0) .i64 .i64 Tryd.underlying24 Tryd.underlying3 hi0 hz0 none 0 0 [] hold n h0 (by omega) (by omega) (by omega) (by rw [hz2]; omega) (growslice_fits (by omega) (by rw [hz2]; omega))
  rw [Nat.zero_add] at hrz
  have hG := grownCap_ge w n 0 3
  have hG2 := grownCap_le_maxLen w n 0 3 (by unfold maxLen; omega)
  generalize grownCap w n 0 3 = G at hrz hG hG2
  have hsz : (([] : List Value).toArray ++ Builtin.zeroCells (Value.int .i64 0).cells n ++ Builtin.zeroCells (Value.int .i64 0).cells (G - n)).size = G * 1 := by
    simp [Builtin.zeroCells, Value.cells]
    omega
  generalize ([] : List Value).toArray ++ Builtin.zeroCells (Value.int .i64 0).cells n ++ Builtin.zeroCells (Value.int .i64 0).cells (G - n) = cs at hrz hsz
  have HR := Lib.hid hrz
  have HS := Lib.hid hsz
  have HG2 := Lib.hid hG2
  have h63 : G ≤ 9223372036854775807 := by unfold maxLen at hG2; omega
  clear hrz hsz hold hi0 hz0 hz1 hz2 hG2
  go_enter Tryd.func82, Tryd.ntmps82
  go_wp2_with (at_builtin; refine Lib.wpList_append_run _ rfl _ _ _ _ rfl _ _ rfl rfl _ _ (HR.out _) ?_)
  go_ret
  refine ⟨some ⟨w.heap.size, 0, none⟩, G, rfl, ?_, ?_⟩
  · exact (Below.refl _ _).drew.alloc (Nat.le_refl _) _
  · exact World.ownsRow_made w.drew cs G (Nat.le_refl _) HG2.out HS.out
/-- a list of slices: address, capacity, what it reads as -/
abbrev SL : Type := Option Addr × Nat × List Int
def slv (l : SL) : Value := .slice l.1 l.2.2.length l.2.1
def cat (ls : List SL) : List Int := ls.flatMap fun l => l.2.2
theorem cat_take (ls : List SL) (k : Nat) (h : k < ls.length) : cat (ls.take (k + 1)) = cat (ls.take k) ++ (ls[k]).2.2 := by
  unfold cat
  rw [List.take_succ_eq_append_getElem h, List.flatMap_append]
  simp only [List.flatMap_cons, List.flatMap_nil, List.append_nil]
theorem cat_take_le (ls : List SL) (k : Nat) : (cat (ls.take k)).length ≤ (cat ls).length := by
  have : cat ls = cat (ls.take k) ++ cat (ls.drop k) := by
    unfold cat
    rw [← List.flatMap_append, List.take_append_drop]
  rw [this, List.length_append]
  omega
set_option maxRecDepth 100000 in
set_option maxHeartbeats 2000000 in
theorem concat_any (w : World) (A0 : Option Addr) (c0 m : Nat) (ls : List SL) (hm : ls.length = m) (hO : Rd w 1 A0 m c0 (ls.map slv)) (hI : ∀ l ∈ ls, Rd w 1 l.1 l.2.2.length l.2.1 (ints l.2.2)) (hm1 : m ≤ 100000000) (hs : (cat ls).length ≤ 100000000) :
    Calls Tryd.prog 71 #[.slice A0 m c0] w fun e w' => ∃ A c, e = .returned (.slice A (cat ls).length c) ∧ Below w.heap.size w w' ∧ w'.ownsRow w.heap.size 3 1 (.slice A (cat ls).length c) (cat ls).length (ints (cat ls)) := by
  have HM := Lib.hid hm
  clear hm
  go_enter Tryd.func71, Tryd.ntmps71
  go_wp2_with fail
  go_loop [3, 11] (fun t i => ∃ k : Nat, k ≤ m ∧ i = .int .i64 (k : Int) ∧ t = .int .i64 ((cat (ls.take k)).length : Int)) (fun _ i => m - (intOf i).toNat)
  case atStart => exact ⟨0, by omega, rfl, by simp [cat]⟩
  case round =>
    obtain ⟨k, hk, rfl, rfl⟩ := hrel
    have h1 := cat_take_le ls k
    by_cases hlt : k < m
    · have hk' : k < ls.length := by rw [HM.out]; exact hlt
      have h2 := cat_take_le ls (k + 1)
      have h3 := cat_take ls k hk'
      have h4 : (cat (ls.take (k + 1))).length = (cat (ls.take k)).length + (ls[k]).2.2.length := by rw [h3, List.length_append]
      have h5 : (cat (ls.take k)).length + (ls[k]).2.2.length ≤ 100000000 := by omega
      have H4 := Lib.hid h4
      obtain ⟨a, rfl, hb, hc⟩ := hO.at1 hlt
      have e : (ls.map slv).getD k undef = .slice (ls[k]).1 (ls[k]).2.2.length (ls[k]).2.1 := by
        rw [List.getD_eq_getElem?_getD, List.getElem?_map, List.getElem?_eq_getElem hk']; rfl
      rw [e] at hc
      clear h3 h4 h2 e
      generalize ls[k] = l at hc H4 h5
      obtain ⟨l1, l2, l3⟩ := l
      simp only at hc H4 h5
      go_wp2_with fail
      go_round
      case rel => exact ⟨k + 1, by omega, by go_num, by rw [H4.out]; go_num⟩
      case measure => simp [intOf]; omega
    · obtain rfl : k = m := by omega
      have hfull : (cat (ls.take k)).length = (cat ls).length := by rw [List.take_of_length_le (by rw [HM.out]; exact Nat.le_refl _)]
      rw [hfull]
      clear hfull h1
      have HS := Lib.hid hs
      obtain ⟨n, hn⟩ : ∃ n, (cat ls).length = n := ⟨_, rfl⟩
      have HN := Lib.hid hn
      rw [hn] at hs
      simp only [hn]
      clear hn
      have hgrow : Calls Tryd.prog 82 #[.slice none 0 0, .int .i64 (n : Int)] w fun e w' => ∃ A c, e = .returned (.slice A 0 c) ∧ Below w.heap.size w w' ∧ w'.ownsRow w.heap.size 3 1 (.slice A 0 c) 0 [] := by
        rcases Nat.eq_zero_or_pos n with h0 | h0
        · subst h0
          exact (grow_none w).mono fun e w' ⟨he, hw⟩ => ⟨none, 0, he, by rw [← hw]; exact Below.refl _ _, by rw [← hw]; exact World.ownsRow_nil _ _ _ _⟩
        · exact grow_some n w h0 hs
      have HG := Lib.hid hgrow
      clear hgrow
      go_wp2_with fail
      refine (HG.out).mono ?_
      rintro e w1 ⟨A1, c1, rfl, hb1, hown1⟩
      obtain ⟨i0, hi0, hz0, hz1, hz2⟩ := info_parts int_info
      have HI0 := Lib.hid hi0
      have HZ0 := Lib.hid hz0
      have HZ1 := Lib.hid hz1
      have HZ2 := Lib.hid hz2
      have HO1 := Lib.hid hown1
      have HB1 := Lib.hid hb1
      clear hi0 hz0 hz1 hz2 hown1 hb1
      go_wp2_with fail
      go_loopw [6, 27] (fun v i wx => ∃ q : Nat, q ≤ k ∧ i = .int .i64 (q : Int) ∧ Below w.heap.size w wx ∧ wx.ownsRow w.heap.size 3 1 v (cat (ls.take q)).length (ints (cat (ls.take q)))) (fun _ i _ => k - (intOf i).toNat)
      case atStart => exact ⟨0, by omega, rfl, HB1.out, by simpa [cat, ints] using HO1.out⟩
      case round =>
        clear HO1 HB1
        obtain ⟨q, hq, rfl, hbr, hown⟩ := hrel
        obtain ⟨AA, c, rfl⟩ := own_slice hown
        have HB := Lib.hid hbr
        have HO := Lib.hid hown
        have hsz := hbr.size
        clear hbr hown
        by_cases hlt : q < k
        · have hk' : q < ls.length := by rw [HM.out]; exact hlt
          have h2 := cat_take_le ls (q + 1)
          have h3 := cat_take ls q hk'
          have h5 : (cat (ls.take q)).length + (ls[q]).2.2.length ≤ 100000000 := by rw [h3, List.length_append] at h2; have := HS.out; omega
          have H3 := Lib.hid h3
          have hR := Lib.hid ((hI ls[q] (List.getElem_mem hk')))
          obtain ⟨a, rfl, hb, hc⟩ := hO.at1 hlt
          have e : (ls.map slv).getD q undef = .slice (ls[q]).1 (ls[q]).2.2.length (ls[q]).2.1 := by
            rw [List.getD_eq_getElem?_getD, List.getElem?_map, List.getElem?_eq_getElem hk']; rfl
          rw [e] at hc
          have hc' := (HB.out.cell (p := a.add q) (by rw [add_block]; exact hb)).trans hc
          clear h3 h2 e hc
          generalize ls[q] = l at hc' H3 h5 hR
          obtain ⟨l1, l2, l3⟩ := l
          simp only at hc' H3 h5 hR
          generalize cat (ls.take q) = P at HO H3 h5
          cases l1 with
          | none =>
            have hl2 : l2 = 0 := hR.out.nil rfl
            have hl3 : l3.length = 0 := by have := hR.out.cap; omega
            subst hl2
            obtain rfl : l3 = [] := List.eq_nil_of_length_eq_zero hl3
            clear hl3 hR
            simp only [List.length_nil] at hc'
            go_wp2_with (at_builtin; refine wpList_append_own_none rfl (.tmp 31) (.tmp 32) 24 rfl w.heap.size 3 i0 1 Tryd.underlying24 HI0.out (.slice AA P.length c) P.length (ints P) rfl HO.out rfl ?_)
            go_wp2_with fail
            go_roundw
            case rel => exact ⟨q + 1, by omega, by go_num, HB.out, by rw [H3.out, List.append_nil]; exact HO.out⟩
            case measure => simp [intOf]; omega
          | some ad =>
            go_wp2_with (at_builtin; refine wpList_append_own _ rfl (.tmp 31) (.tmp 32) 24 rfl w.heap.size 3 i0 (.int .i64 0) 1 8 Tryd.underlying24 HI0.out HZ0.out HZ1.out HZ2.out rfl (by decide) (.slice AA P.length c) P.length (ints P) rfl HO.out ad l3.length l2 (ints l3) rfl (by rw [ints_length, Nat.mul_one]) ?c1 ?c2 ?c3 ?c4 ?c5 ?_)
            case c1 =>
              intro j u hj
              obtain ⟨b, hb1, hb2, hb3⟩ := (hR.out.later HB.out).read j u hj
              injection hb1 with hb1
              subst hb1
              exact hb3
            case c2 =>
              intro u hu
              obtain ⟨x, -, rfl⟩ := List.mem_map.1 hu
              rfl
            case c3 => unfold maxLen; omega
            case c4 => omega
            case c5 => exact hsz
            intro v' w2 hown2 hg2 hnil
            have HO2 := Lib.hid hown2
            have HB2 := Lib.hid (HB.out.grown hg2 hsz (fun k hk => own_base HO.out hk))
            clear hown2 hg2 hnil
            go_wp2_with fail
            go_roundw
            case rel => exact ⟨q + 1, by omega, by go_num, HB2.out, by rw [H3.out, List.length_append, ints_append]; exact HO2.out⟩
            case measure => simp [intOf]; omega
        · obtain rfl : q = k := by omega
          have hfull : cat (ls.take q) = cat ls := by rw [List.take_of_length_le (by rw [HM.out]; exact Nat.le_refl _)]
          have HF := Lib.hid hfull
          clear hfull
          go_wp2_with fail
          go_ret
          refine ⟨AA, c, ?_, HB.out, ?_⟩
          · rw [HF.out, HN.out]; rfl
          · have := HO.out; rw [HF.out] at this; exact this
end Go.Proofs.YtebgihekgijpfaaDoor

namespace Go.Proofs.YtebgihekgijpfaaDoor
open Go.RowKit
set_option linter.unusedVariables false
set_option linter.unusedSimpArgs false

section
variable {ops : Array Oper} {rest : List Oper} {o : Oper} {a : Act} {Q : Exit → Act → World → Prop}
/-- a whole row behind a row of one's own, whatever the element -/
theorem wpList_app_row (hgd : o.guard = none) (s x : Operand) (ts te : TypeId) (ho : o.op = .call { callee := .builtin .append, args := #[s, x], argTypes := #[ts, ts] })
    (hts : Tryd.prog.underlying ts = some (.slice te)) (z : Value) (sz bytes : Nat) (hinfo : (Tryd.prog.info? te).map (fun i => (i.zero, i.size, i.bytes)) = some (some z, sz, bytes)) (hzs : z.cells.size = sz) (hsz : 0 < sz) (hby : bytes ≤ 100000)
    {W : World} (base : Nat) (A : Option Addr) (k c : Nat) (L : List Value) (hs : a.eval s = .slice A k c) (O : W.ownsRow base te sz (.slice A k c) k L)
    (A2 : Option Addr) (n d : Nat) (M : List Value) (hx : a.eval x = .slice A2 n d) (hr : Rd W sz A2 n d M) (h1 : ∀ u ∈ M, u.oneCell' = true) (hk : k + n ≤ 100000000) (hb : base ≤ W.heap.size)
    (h : ∀ A' c' w', w'.ownsRow base te sz (.slice A' (k + n) c') (k + n) (L ++ M) → W.grownBy w' (Value.slice A k c).ownBlock → wpList Tryd.prog ops Q rest (a.put o.dst (.slice A' (k + n) c')) w') :
    wpList Tryd.prog ops Q (o :: rest) a W := by
  obtain ⟨i0, hi0, hz0, hz1, hz2⟩ := info_parts hinfo
  cases A2 with
  | none =>
    have hd : d = 0 := hr.nil rfl
    have hn : n = 0 := by have := hr.cap; omega
    subst hd hn
    have hM : M = [] := List.eq_nil_of_length_eq_zero (by have := hr.len; omega)
    subst hM
    refine wpList_append_own_none hgd s x ts ho base te i0 sz hts hi0 (.slice A k c) k L hs O hx ?_
    exact h A c W (by simpa using O) (World.grownBy.refl W _)
  | some ad =>
    refine wpList_append_own _ hgd s x ts ho base te i0 z sz bytes hts hi0 hz0 hz1 hz2 hzs hsz (.slice A k c) k L hs O ad n d M hx hr.len ?_ h1 ?_ ?_ hb ?_
    · intro j u hj
      obtain ⟨a', e, -, hc⟩ := hr.read j u hj
      obtain rfl := Option.some.inj e
      exact hc
    · unfold maxLen; omega
    · have := Nat.mul_le_mul hk hby; omega
    · intro v' w' hown hg _
      obtain ⟨A', c', rfl⟩ := own_slice hown
      exact h A' c' w' hown hg
end
theorem Rd.chg {w w' : World} {X : Nat → Prop} {size n c : Nat} {A : Option Addr} {xs : List Value} (h : Rd w size A n c xs) (hc : Chg w w' X) (hx : ∀ g, blkOf A = some g → ¬ X g) : Rd w' size A n c xs := by
  refine ⟨h.len, h.cap, h.nil, fun j u hj => ?_⟩
  obtain ⟨a, rfl, hb, hr⟩ := h.read j u hj
  refine ⟨a, rfl, Nat.lt_of_lt_of_le hb hc.size, ?_⟩
  rw [← hr]
  have hh := hc.block a.block hb (hx _ rfl)
  rw [← add_block a j] at hh
  simp only [World.cell?, hh]
/-- the cells of a part of a row -/
theorem Rd.sub {w : World} {size n c : Nat} {A : Option Addr} {xs : List Value} (h : Rd w size A n c xs) {i m : Nat} (hi : i + m ≤ n) (hm : 0 < m ∨ True) : Rd w size (A.map fun a => a.add (i * size)) m (c - i) ((xs.drop (i * size)).take (m * size)) := by
  refine ⟨?_, by have := h.cap; omega, ?_, fun j u hj => ?_⟩
  · have := h.len
    have h2 : (i + m) * size ≤ n * size := Nat.mul_le_mul_right _ hi
    rw [Nat.add_mul] at h2
    simp only [List.length_take, List.length_drop, this]
    omega
  · intro e
    cases A with
    | none => have := h.nil rfl; omega
    | some a => cases e
  · have hj1 : j < m * size := by
      rcases Nat.lt_or_ge j (m * size) with hlt | hge
      · exact hlt
      · rw [List.getElem?_eq_none (by rw [List.length_take]; omega)] at hj; cases hj
    rw [List.getElem?_take_of_lt hj1, List.getElem?_drop] at hj
    obtain ⟨a, rfl, hb, hr⟩ := h.read _ u hj
    refine ⟨_, rfl, by rw [add_block]; exact hb, ?_⟩
    rw [← hr]
    congr 1
    unfold Addr.add
    by_cases h0 : i * size = 0 <;> by_cases h1 : j = 0 <;> simp [h0, h1, Nat.add_assoc]
/-- a slice of ints lies in memory -/
def SLIn (w : World) (l : SL) : Prop := Rd w 1 l.1 l.2.2.length l.2.1 (ints l.2.2)
theorem SLIn.later {w w' : World} {l : SL} (h : SLIn w l) (hb : Below w.heap.size w w') : SLIn w' l := Rd.later h hb
/-- slices of ints, in a row -/
structure SLs (w : World) (A : Option Addr) (c : Nat) (ls : List SL) : Prop where
  row : Rd w 1 A ls.length c (ls.map slv)
  all : ∀ l ∈ ls, SLIn w l
theorem SLs.later {w w' : World} {A : Option Addr} {c : Nat} {ls : List SL} (h : SLs w A c ls) (hb : Below w.heap.size w w') : SLs w' A c ls := ⟨h.row.later hb, fun l hl => (h.all l hl).later hb⟩
/-- what the slices read as -/
def con (ls : List SL) : List (List Int) := ls.map fun l => l.2.2
theorem con_length (ls : List SL) : (con ls).length = ls.length := by simp [con]
theorem SLs.at_ {w : World} {A : Option Addr} {c : Nat} {ls : List SL} (h : SLs w A c ls) {k : Nat} (hk : k < ls.length) :
    ∃ a, A = some a ∧ a.block < w.heap.size ∧ w.cell? (a.add k) = some (slv ls[k]) ∧ SLIn w ls[k] := by
  obtain ⟨a, hA, hb, hr⟩ := h.row.at1 hk
  refine ⟨a, hA, hb, ?_, h.all _ (List.getElem_mem hk)⟩
  rw [hr, List.getD_eq_getElem?_getD, List.getElem?_map, List.getElem?_eq_getElem hk]
  rfl
theorem slv_one (ls : List SL) : ∀ u ∈ ls.map slv, u.oneCell' = true := by
  intro u hu
  obtain ⟨x, -, rfl⟩ := List.mem_map.1 hu
  rfl
end Go.Proofs.YtebgihekgijpfaaDoor

namespace Go.Proofs.YtebgihekgijpfaaDoor.Cut
set_option linter.unusedVariables false
set_option linter.unusedSimpArgs false
/-- so far as i and j they are made one -/
def MrgAt (a b out : List Int) (i j : Nat) : Prop := mrg a b = out ++ mrg (a.drop i) (b.drop j)
theorem MrgAt.start (a b : List Int) : MrgAt a b [] 0 0 := rfl
theorem drop_at {l : List Int} {i : Nat} (h : i < l.length) : l.drop i = l.getD i 0 :: l.drop (i + 1) := by
  rw [List.drop_eq_getElem_cons h]
  congr 1
  rw [List.getD_eq_getElem?_getD, List.getElem?_eq_getElem h]; rfl
theorem mrg_left (x : Int) (a : List Int) {b : List Int} (h : ∀ y b', b = y :: b' → x < y) : mrg (x :: a) b = x :: mrg a b := by
  cases b with
  | nil => simp [mrg]; cases a <;> simp [mrg]
  | cons y b => rw [mrg, if_pos (h y b rfl)]
theorem mrg_right (y : Int) (b : List Int) {a : List Int} (h : ∀ x a', a = x :: a' → y < x) : mrg a (y :: b) = y :: mrg a b := by
  cases a with
  | nil => simp [mrg]
  | cons x a => have := h x a rfl; rw [mrg, if_neg (by omega), if_pos this]
theorem mrg_both (x : Int) (a b : List Int) : mrg (x :: a) (x :: b) = x :: mrg a b := by rw [mrg, if_neg (by omega), if_neg (by omega)]
theorem MrgAt.left {a b out : List Int} {i j : Nat} (h : MrgAt a b out i j) (hi : i < a.length) (hc : j < b.length → a.getD i 0 < b.getD j 0) : MrgAt a b (out ++ [a.getD i 0]) (i + 1) j := by
  unfold MrgAt at h ⊢
  rw [h, drop_at hi, mrg_left, List.append_assoc]; rfl
  intro y b' hb
  have hj : j < b.length := by
    rcases Nat.lt_or_ge j b.length with h1 | h1
    · exact h1
    · rw [List.drop_eq_nil_of_le h1] at hb; cases hb
  rw [drop_at hj] at hb
  injection hb with h1 h2
  rw [← h1]; exact hc hj
theorem MrgAt.right {a b out : List Int} {i j : Nat} (h : MrgAt a b out i j) (hj : j < b.length) (hc : i < a.length → b.getD j 0 < a.getD i 0) : MrgAt a b (out ++ [b.getD j 0]) i (j + 1) := by
  unfold MrgAt at h ⊢
  rw [h, drop_at hj, mrg_right, List.append_assoc]; rfl
  intro x a' ha
  have hi : i < a.length := by
    rcases Nat.lt_or_ge i a.length with h1 | h1
    · exact h1
    · rw [List.drop_eq_nil_of_le h1] at ha; cases ha
  rw [drop_at hi] at ha
  injection ha with h1 h2
  rw [← h1]; exact hc hi
theorem MrgAt.both {a b out : List Int} {i j : Nat} (h : MrgAt a b out i j) (hi : i < a.length) (hj : j < b.length) (hc : a.getD i 0 = b.getD j 0) : MrgAt a b (out ++ [a.getD i 0]) (i + 1) (j + 1) := by
  unfold MrgAt at h ⊢
  rw [h, drop_at hi, drop_at hj, ← hc, mrg_both, List.append_assoc]; rfl
theorem MrgAt.done {a b out : List Int} {i j : Nat} (h : MrgAt a b out i j) (hi : a.length ≤ i) (hj : b.length ≤ j) : mrg a b = out := by
  unfold MrgAt at h
  rw [h, List.drop_eq_nil_of_le hi, List.drop_eq_nil_of_le hj]; simp [mrg]
theorem MrgAt.more {a b out : List Int} {i j : Nat} (h : MrgAt a b out i j) (hc : i < a.length ∨ j < b.length) : out.length < (mrg a b).length := by
  unfold MrgAt at h
  rw [h, List.length_append]
  have := mrg_len (a.drop i) (b.drop j)
  simp only [List.length_drop] at this
  omega
end Go.Proofs.YtebgihekgijpfaaDoor.Cut
namespace Go.Proofs.YtebgihekgijpfaaDoor
open Go.RowKit
set_option linter.unusedVariables false
set_option linter.unusedSimpArgs false
/-- what a Merge tells: a list of its own, or none -/
def MrgOut (o : Option (List Int)) (w : World) (r : Ending) (w' : World) : Prop :=
  ∃ A c, r = .returned (.tuple #[.slice A (o.getD []).length c, .bool o.isSome]) ∧ Below w.heap.size w w' ∧ w'.ownsRow w.heap.size 3 1 (.slice A (o.getD []).length c) (o.getD []).length (ints (o.getD []))
theorem MrgOut.none {w w' : World} (h : Below w.heap.size w w') : MrgOut none w (.returned (.tuple #[.slice none 0 0, .bool false])) w' :=
  ⟨Option.none, 0, rfl, h, World.ownsRow_nil _ _ _ _⟩
theorem MrgOut.some {w w' : World} {A : Option Addr} {c : Nat} {L : List Int} (h : Below w.heap.size w w') (ho : w'.ownsRow w.heap.size 3 1 (.slice A L.length c) L.length (ints L)) : MrgOut (some L) w (.returned (.tuple #[.slice A L.length c, .bool true])) w' :=
  ⟨A, c, rfl, h, ho⟩
theorem merge_none {a b : List Int} {k : Int} (h : ¬ (Cut.Rises a ∧ Cut.Rises b ∧ 0 ≤ k ∧ k ≤ 6 ∧ ((Cut.mrg a b).length : Int) ≤ k)) : Cut.merge a b k = none := by unfold Cut.merge; rw [if_neg h]
theorem merge_some {a b : List Int} {k : Int} (h : Cut.Rises a ∧ Cut.Rises b ∧ 0 ≤ k ∧ k ≤ 6 ∧ ((Cut.mrg a b).length : Int) ≤ k) : Cut.merge a b k = some (Cut.mrg a b) := by unfold Cut.merge; rw [if_pos h]
end Go.Proofs.YtebgihekgijpfaaDoor

namespace Go.Proofs.YtebgihekgijpfaaDoor.Cut
set_option linter.unusedVariables false
set_option linter.unusedSimpArgs false
/-- the depth of a set of leaves -/
def deepTo (d : List Int) (l : List Int) : Nat → Int
  | 0 => 0
  | k + 1 => max (deepTo d l k) (d.getD (l.getD k 0).toNat 0)
def deep (d l : List Int) : Int := deepTo d l l.length + 1
/-- by the first place where they differ -/
def lexB : List Int → List Int → Bool
  | x :: a, y :: b => if x ≠ y then decide (x < y) else lexB a b
  | _, _ => false
def aheadB (d a b : List Int) : Bool := if deep d a ≠ deep d b then decide (deep d a < deep d b) else if a.length ≠ b.length then decide (a.length < b.length) else lexB a b
theorem deepTo_bound {d l : List Int} {M : Int} (h0 : 0 ≤ M) (h : ∀ x ∈ d, x ≤ M) : ∀ k, 0 ≤ deepTo d l k ∧ deepTo d l k ≤ M
  | 0 => ⟨Int.le_refl _, h0⟩
  | k + 1 => by
    have ih := deepTo_bound h0 h (l := l) k
    have hd : d.getD (l.getD k 0).toNat 0 ≤ M := by
      rw [List.getD_eq_getElem?_getD]
      cases hg : d[(l.getD k 0).toNat]? with
      | none => exact h0
      | some v => exact h v (List.mem_of_getElem? hg)
    simp only [deepTo]
    omega
theorem deep_bound {d l : List Int} {M : Int} (h0 : 0 ≤ M) (h : ∀ x ∈ d, x ≤ M) : 1 ≤ deep d l ∧ deep d l ≤ M + 1 := by
  have := deepTo_bound h0 h (l := l) l.length
  unfold deep; omega
theorem lexB_step {a b : List Int} {i : Nat} (ha : i < a.length) (hb : i < b.length) : lexB (a.drop i) (b.drop i) = if a.getD i 0 ≠ b.getD i 0 then decide (a.getD i 0 < b.getD i 0) else lexB (a.drop (i + 1)) (b.drop (i + 1)) := by
  rw [drop_at ha, drop_at hb, lexB]
theorem lexB_end {a b : List Int} {i : Nat} (ha : a.length ≤ i) : lexB (a.drop i) (b.drop i) = false := by
  rw [List.drop_eq_nil_of_le ha, lexB]
  intro x a' y b' h; cases h
end Go.Proofs.YtebgihekgijpfaaDoor.Cut
namespace Go.Proofs.YtebgihekgijpfaaDoor
open Go.RowKit
set_option linter.unusedVariables false
set_option linter.unusedSimpArgs false
/-- depths: of so many nodes, small -/
structure DepIn (w : World) (A : Option Addr) (c N : Nat) (d : List Int) : Prop where
  rd : Rd w 1 A N c (ints d)
  small : ∀ x ∈ d, x ≤ 1000000
theorem DepIn.later {w w' : World} {A : Option Addr} {c N : Nat} {d : List Int} (h : DepIn w A c N d) (hb : Below w.heap.size w w') : DepIn w' A c N d := ⟨h.rd.later hb, h.small⟩
/-- all of them are nodes of those -/
def NodesIn (N : Nat) (l : List Int) : Prop := ∀ x ∈ l, 0 ≤ x ∧ x < (N : Int)
theorem getD_mem {l : List Int} {k : Nat} (h : k < l.length) : l.getD k 0 ∈ l := by
  rw [List.getD_eq_getElem?_getD, List.getElem?_eq_getElem h]; exact List.getElem_mem h
end Go.Proofs.YtebgihekgijpfaaDoor

namespace Go.Proofs.YtebgihekgijpfaaDoor.Cut
set_option linter.unusedVariables false
set_option linter.unusedSimpArgs false
/-- where a set stands -/
def placeOf (d : List Int) (L : List (List Int)) (x : List Int) : Nat := (L.takeWhile fun y => aheadB d y x).length
/-- a set more, if it is not there -/
def put (d : List Int) (L : List (List Int)) (x : List Int) : List (List Int) :=
  if L[placeOf d L x]? = some x then L else L.take (placeOf d L x) ++ [x] ++ L.drop (placeOf d L x)
theorem takeWhile_len {α : Type} (p : α → Bool) : ∀ (L : List α) (k : Nat), (∀ (j : Nat) (h : j < L.length), j < k → p L[j] = true) → k ≤ L.length → (∀ h : k < L.length, p L[k] = false) → (L.takeWhile p).length = k
  | [], k, _, hk, _ => by simp at hk; simp [hk]
  | x :: L, 0, _, _, h => by have := h (by simp); simp at this; simp [this]
  | x :: L, k + 1, h1, h2, h3 => by
    have hx : p x = true := h1 0 (by simp) (by omega)
    rw [List.takeWhile_cons, if_pos hx, List.length_cons]
    rw [takeWhile_len p L k (fun j h hj => h1 (j + 1) (by simpa using h) (by omega)) (by simpa using h2) (fun h => h3 (by simpa using h))]
end Go.Proofs.YtebgihekgijpfaaDoor.Cut
namespace Go.Proofs.YtebgihekgijpfaaDoor
open Go.RowKit
set_option linter.unusedVariables false
set_option linter.unusedSimpArgs false
theorem Rd.pre {w : World} {size n c : Nat} {A : Option Addr} {xs : List Value} (h : Rd w size A n c xs) {k : Nat} (hk : k ≤ n) : Rd w size A k c (xs.take (k * size)) := by
  have hle := Nat.mul_le_mul_right size hk
  refine ⟨by rw [List.length_take, h.len]; omega, Nat.le_trans hk h.cap, h.nil, fun j u hj => ?_⟩
  have hj1 : j < k * size := by
    rcases Nat.lt_or_ge j (k * size) with hlt | hge
    · exact hlt
    · rw [List.getElem?_eq_none (by rw [List.length_take]; omega)] at hj; cases hj
  rw [List.getElem?_take_of_lt hj1] at hj
  exact h.read j u hj
theorem Rd.none0 (w : World) (size : Nat) (A : Option Addr) (c : Nat) (h : A = none → c = 0) : Rd w size A 0 c [] := ⟨by simp, by omega, h, fun j u hj => by simp at hj⟩
theorem Rd.suf {w : World} {n c : Nat} {A : Option Addr} {xs : List Value} (h : Rd w 1 A n c xs) {k : Nat} (hk : k ≤ n) {a : Addr} (hA : A = some a) : Rd w 1 (if c = k then some a else some (a.add k)) (n - k) (c - k) (xs.drop k) := by
  have hlen := h.len
  have hcap := h.cap
  refine ⟨by rw [List.length_drop]; omega, by omega, fun e => (by split at e <;> cases e), fun j u hj => ?_⟩
  rw [List.getElem?_drop] at hj
  have hlt : k + j < xs.length := by
    rcases Nat.lt_or_ge (k + j) xs.length with h1 | h1
    · exact h1
    · rw [List.getElem?_eq_none h1] at hj; cases hj
  obtain ⟨a', e, hb, hr⟩ := h.read _ u hj
  rw [hA] at e
  obtain rfl := Option.some.inj e
  rw [if_neg (by omega)]
  refine ⟨_, rfl, by rw [add_block]; exact hb, ?_⟩
  rw [← hr]
  congr 1
  unfold Addr.add
  by_cases h0 : k = 0 <;> by_cases h1 : j = 0 <;> simp [h0, h1, Nat.add_assoc]
theorem slice_info : (Tryd.prog.info? 24).map (fun i => (i.zero, i.size, i.bytes)) = some (some (.slice none 0 0), 1, 24) := by kernel_rfl
/-- what put tells -/
def PutSt (d : List Int) (L : List SL) (x : SL) (w : World) (A : Option Addr) (c : Nat) (ls : List SL) (w' : World) : Prop := Below w.heap.size w w' ∧ SLs w' A c ls ∧ con ls = Cut.put d (con L) x.2.2 ∧ ∀ l ∈ ls, l ∈ L ∨ l = x
def PutOut (d : List Int) (L : List SL) (x : SL) (w : World) (r : Ending) (w' : World) : Prop :=
  ∃ A c ls, r = .returned (.slice A (ls : List SL).length c) ∧ PutSt d L x w A c ls w'
theorem con_at {ls : List SL} {k : Nat} (h : k < ls.length) : (con ls)[k]'(by rw [con_length]; exact h) = ls[k].2.2 := by simp [con]
end Go.Proofs.YtebgihekgijpfaaDoor

namespace Go.Proofs.YtebgihekgijpfaaDoor.Cut
set_option linter.unusedVariables false
set_option linter.unusedSimpArgs false
def pairs (a b : List (List Int)) : List (List Int × List Int) := a.flatMap fun x => b.map fun y => (x, y)
def putM (d : List Int) (k : Int) (L : List (List Int)) (p : List Int × List Int) : List (List Int) := match merge p.1 p.2 k with
  | some x => put d L x
  | none => L
/-- the sets of a gate, all of them -/
def gateAll (d : List Int) (a b : List (List Int)) (k : Int) : List (List Int) := (pairs a b).foldl (putM d k) []
def gate (d : List Int) (a b : List (List Int)) (k : Int) : List (List Int) := (gateAll d a b k).take 8
theorem pairs_len (a b : List (List Int)) : (pairs a b).length = a.length * b.length := by
  induction a with
  | nil => simp [pairs]
  | cons x a ih =>
    have e : pairs (x :: a) b = (b.map fun y => (x, y)) ++ pairs a b := by simp [pairs]
    rw [e, List.length_append, ih, List.length_map, List.length_cons, Nat.add_mul]; omega
theorem pairs_at : ∀ (a b : List (List Int)) (i j : Nat) (hi : i < a.length) (hj : j < b.length), (pairs a b)[i * b.length + j]? = some (a[i], b[j])
  | [], b, i, j, hi, hj => by simp at hi
  | x :: a, b, 0, j, hi, hj => by
    have e : pairs (x :: a) b = (b.map fun y => (x, y)) ++ pairs a b := by simp [pairs]
    rw [e, Nat.zero_mul, Nat.zero_add, List.getElem?_append_left (by simpa using hj), List.getElem?_map, List.getElem?_eq_getElem hj]; rfl
  | x :: a, b, i + 1, j, hi, hj => by
    have e : pairs (x :: a) b = (b.map fun y => (x, y)) ++ pairs a b := by simp [pairs]
    have h1 : (i + 1) * b.length + j = b.length + (i * b.length + j) := by rw [Nat.add_mul]; omega
    rw [e, h1, List.getElem?_append_right (by simp)]
    have h2 : b.length + (i * b.length + j) - (b.map fun y => (x, y)).length = i * b.length + j := by simp
    rw [h2]
    have := pairs_at a b i j (by simpa using hi) hj
    simpa using this
/-- so far xs so many pairs -/
def gateTo (d : List Int) (a b : List (List Int)) (k : Int) (n : Nat) : List (List Int) := ((pairs a b).take n).foldl (putM d k) []
theorem gateTo_zero (d : List Int) (a b : List (List Int)) (k : Int) : gateTo d a b k 0 = [] := rfl
theorem gateTo_all (d : List Int) (a b : List (List Int)) (k : Int) : gateTo d a b k (a.length * b.length) = gateAll d a b k := by
  unfold gateTo gateAll
  rw [← pairs_len, List.take_length]
theorem gateTo_next {d : List Int} {a b : List (List Int)} {k : Int} {i j : Nat} (hi : i < a.length) (hj : j < b.length) : gateTo d a b k (i * b.length + j + 1) = putM d k (gateTo d a b k (i * b.length + j)) (a[i], b[j]) := by
  unfold gateTo
  have h := pairs_at a b i j hi hj
  obtain ⟨hlt, he⟩ := List.getElem?_eq_some_iff.1 h
  rw [List.take_succ_eq_append_getElem hlt, List.foldl_append, he]; rfl
theorem put_len (d : List Int) (L : List (List Int)) (x : List Int) : (put d L x).length ≤ L.length + 1 := by
  unfold put
  split
  · omega
  · simp; omega
theorem put_mem {d : List Int} {L : List (List Int)} {x y : List Int} (h : y ∈ put d L x) : y ∈ L ∨ y = x := by
  unfold put at h
  split at h
  · exact .inl h
  · rcases List.mem_append.1 h with h | h
    · rcases List.mem_append.1 h with h | h
      · exact .inl (List.mem_of_mem_take h)
      · exact .inr (by simpa using h)
    · exact .inl (List.mem_of_mem_drop h)
theorem merge_mem {a b x : List Int} {k : Int} (h : merge a b k = some x) : x = mrg a b ∧ Rises x ∧ (x.length : Int) ≤ k ∧ k ≤ 6 ∧ ∀ z, z ∈ x → z ∈ a ∨ z ∈ b := by
  unfold merge at h
  split at h
  · next hc =>
    cases h
    exact ⟨rfl, mrg_rises a b hc.1 hc.2.1, hc.2.2.2.2, hc.2.2.2.1, fun z hz => (mem_mrg a b z).1 hz⟩
  · cases h
end Go.Proofs.YtebgihekgijpfaaDoor.Cut
namespace Go.Proofs.YtebgihekgijpfaaDoor
open Go.RowKit
set_option linter.unusedVariables false
set_option linter.unusedSimpArgs false
/-- cuts, and where their leaves lie -/
abbrev CT : Type := SL × Nat
def cutC (cs : List CT) : List Value := cs.flatMap fun c => [slv c.1, .int .u64 (c.2 : Int)]
theorem cutC_length (cs : List CT) : (cutC cs).length = cs.length * 2 := by
  induction cs with
  | nil => rfl
  | cons c cs ih => simp only [cutC, List.flatMap_cons, List.length_append] at *; simp at *; omega
theorem cutC_append (a b : List CT) : cutC (a ++ b) = cutC a ++ cutC b := by simp [cutC]
theorem cutC_get : ∀ (cs : List CT) (k : Nat) (hk : k < cs.length), (cutC cs)[k * 2]? = some (slv cs[k].1) ∧ (cutC cs)[k * 2 + 1]? = some (.int .u64 (cs[k].2 : Int))
  | x :: l, 0, _ => ⟨rfl, rfl⟩
  | x :: l, k + 1, hk => by
    have ih := cutC_get l k (by simpa using hk)
    have e : (k + 1) * 2 = k * 2 + 2 := by omega
    rw [e]
    simpa [cutC] using ih
theorem cutC_one (cs : List CT) : ∀ u ∈ cutC cs, u.oneCell' = true := by
  intro u hu
  obtain ⟨c, -, hc⟩ := List.mem_flatMap.1 hu
  simp at hc
  rcases hc with rfl | rfl <;> rfl
structure CutsIn (w : World) (A : Option Addr) (c : Nat) (cs : List CT) : Prop where
  row : Rd w 2 A cs.length c (cutC cs)
  all : ∀ x ∈ cs, SLIn w x.1
theorem CutsIn.later {w w' : World} {A : Option Addr} {c : Nat} {cs : List CT} (h : CutsIn w A c cs) (hb : Below w.heap.size w w') : CutsIn w' A c cs := ⟨h.row.later hb, fun l hl => (h.all l hl).later hb⟩
/-- the leaves of each -/
def lvs (cs : List CT) : List (List Int) := cs.map fun c => c.1.2.2
theorem lvs_length (cs : List CT) : (lvs cs).length = cs.length := by simp [lvs]
theorem lvs_at {cs : List CT} {k : Nat} (h : k < cs.length) : (lvs cs)[k]'(by rw [lvs_length]; exact h) = cs[k].1.2.2 := by simp [lvs]
/-- the leaves are nodes -/
def LvIn (N : Nat) (cs : List CT) : Prop := ∀ c ∈ cs, NodesIn N c.1.2.2 ∧ c.1.2.2.length ≤ 6
theorem CutsIn.at_ {w : World} {A : Option Addr} {c : Nat} {cs : List CT} (h : CutsIn w A c cs) {k : Nat} (hk : k < cs.length) :
    ∃ a, A = some a ∧ a.block < w.heap.size ∧ w.cell? (a.add (k * 2)) = some (slv cs[k].1) ∧ w.cell? ⟨(a.add (k * 2)).block, (a.add (k * 2)).off + 1, none⟩ = some (.int .u64 (cs[k].2 : Int)) ∧ SLIn w cs[k].1 := by
  obtain ⟨h0, h1⟩ := cutC_get cs k hk
  obtain ⟨a, e, hb, g0, g1⟩ := h.row.two h0 h1
  exact ⟨a, e, hb, g0, g1, h.all _ (List.getElem_mem hk)⟩
/-- leaves in a row of the call's own -/
def OwnL (base : Nat) (w : World) (l : SL) : Prop := w.ownsRow base 3 1 (slv l) l.2.2.length (ints l.2.2)
theorem OwnL.later {base : Nat} {w w' : World} {l : SL} (h : OwnL base w l) (hb : Below w.heap.size w w') : OwnL base w' l := own_keep h hb
def GateOut (L : List (List Int)) (w : World) (r : Ending) (w' : World) : Prop :=
  ∃ A c ls, r = .returned (.slice A (ls : List SL).length c) ∧ Below w.heap.size w w' ∧ SLs w' A c ls ∧ con ls = L ∧ ∀ l ∈ ls, OwnL w.heap.size w' l
theorem SLs.pre {w : World} {A : Option Addr} {c : Nat} {ls : List SL} (h : SLs w A c ls) (k : Nat) (hk : k ≤ ls.length) : SLs w A c (ls.take k) := by
  refine ⟨?_, fun l hl => h.all l (List.mem_of_mem_take hl)⟩
  have := h.row.pre hk
  rw [Nat.mul_one] at this
  simpa [List.length_take, Nat.min_eq_left hk, List.map_take] using this
end Go.Proofs.YtebgihekgijpfaaDoor
