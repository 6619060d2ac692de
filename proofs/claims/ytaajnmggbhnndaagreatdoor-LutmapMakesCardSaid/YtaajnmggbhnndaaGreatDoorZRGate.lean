/- slices.Grow, slices.Concat at []int. · Slices of slices; appends of whole rows; what one change leaves alone. · filigreeref24.Merge. · filigreeref24.deep, ahead; which set of leaves is ahead of another, plainly. · filigreeref24.put. · filigreeref24.gate: the sets of a gate. -/
import Derived.Test.YtaajnmggbhnndaaGreatDoorZMem
import Derived.Lib.AppendZerosOnto
import Derived.Lib.Walk
import Derived.Lib.SliceRun
import Derived.Test.YtaajnmggbhnndaaGreatDoorZRTbl
import Derived.Test.YtaajnmggbhnndaaGreatDoorZAig
namespace Go.Proofs.YtaajnmggbhnndaaGreatDoor
open Go.RowKit
set_option linter.unusedVariables false
set_option linter.unusedSimpArgs false

set_option maxRecDepth 100000 in
set_option maxHeartbeats 1000000 in
theorem grow_none (w : World) : Calls Tryz.prog 90 #[.slice none 0 0, .int .i64 0] w fun e w' => e = .returned (.slice none 0 0) ∧ w = w' := by
  go_enter Tryz.func90, Tryz.ntmps90
  go_wp2_with fail
  go_ret
  exact ⟨rfl, rfl⟩
set_option maxRecDepth 100000 in
set_option maxHeartbeats 1000000 in
theorem grow_some (n : Nat) (w : World) (h0 : 0 < n) (hn : n ≤ 100000000) :
    Calls Tryz.prog 90 #[.slice none 0 0, .int .i64 (n : Int)] w fun e w' => ∃ A c, e = .returned (.slice A 0 c) ∧ Below w.heap.size w w' ∧ w'.ownsRow w.heap.size 3 1 (.slice A 0 c) 0 [] := by
  obtain ⟨i0, hi0, hz0, hz1, hz2⟩ := info_parts int_info
  have hold : (Builtin.firstCells i0.size 0 (.slice none 0 0)).run Tryz.prog w.drew = .ok ([] : List Value).toArray w.drew := run_firstCells_none w.drew i0.size 0 0 0
  have hrz : ∀ ty, (Builtin.append_ #[24, 3] ty #[.slice none 0 0, .int .i64 (n : Int)]).run Tryz.prog w =
      .ok (.slice (some ⟨w.heap.size, 0, none⟩) (0 + n) (grownCap w (0 + n) 0 3)) (w.drew.alloc (.cells (([] : List Value).toArray ++ Builtin.zeroCells (Value.int .i64 0).cells n ++ Builtin.zeroCells (Value.int .i64 0).cells (grownCap w (0 + n) 0 3 - (0 + n))) 3)) := fun ty =>
    Lib.run_append_grow_zeros w 24 3 ty 3 i0 (.int .i64 0) .i64 .i64 Tryz.underlying24 Tryz.underlying3 hi0 hz0 none 0 0 [] hold n h0 (by omega) (by omega) (by omega) (by rw [hz2]; omega) (growslice_fits (by omega) (by rw [hz2]; omega))
  rw [Nat.zero_add] at hrz
  have hG := grownCap_ge w n 0 3
  have hG2 := grownCap_le_maxLen w n 0 3 (by unfold maxLen; omega)
  generalize grownCap w n 0 3 = G at hrz hG hG2
  have hsz : (([] : List Value).toArray ++ Builtin.zeroCells (Value.int .i64 0).cells n ++ Builtin.zeroCells (Value.int .i64 0).cells (G - n)).size = G * 1 := by
    simp [Builtin.zeroCells, Value.cells]
    omega
  generalize ([] : List Value).toArray ++ Builtin.zeroCells (Value.int .i64 0).cells n ++ Builtin.zeroCells (Value.int .i64 0).cells (G - n) = cs at hrz hsz
  have HR := Lib.hid hrz
  have HS := Lib.hid hsz
  have HG2 := Lib.hid hG2
  have h63 : G ≤ 9223372036854775807 := by unfold maxLen at hG2; omega
  clear hrz hsz hold hi0 hz0 hz1 hz2 hG2
  go_enter Tryz.func90, Tryz.ntmps90
  go_wp2_with (at_builtin; refine Lib.wpList_append_run _ rfl _ _ _ _ rfl _ _ rfl rfl _ _ (HR.out _) ?_)
  go_ret
  refine ⟨some ⟨w.heap.size, 0, none⟩, G, rfl, ?_, ?_⟩
  · exact (Below.refl _ _).drew.alloc (Nat.le_refl _) _
  · exact World.ownsRow_made w.drew cs G (Nat.le_refl _) HG2.out HS.out
/-- a list of slices: address, capacity, what it reads as -/
abbrev SL : Type := Option Addr × Nat × List Int
def slv (l : SL) : Value := .slice l.1 l.2.2.length l.2.1
def cat (ls : List SL) : List Int := ls.flatMap fun l => l.2.2
theorem cat_take (ls : List SL) (k : Nat) (h : k < ls.length) : cat (ls.take (k + 1)) = cat (ls.take k) ++ (ls[k]).2.2 := by
  unfold cat
  rw [List.take_succ_eq_append_getElem h, List.flatMap_append]
  simp only [List.flatMap_cons, List.flatMap_nil, List.append_nil]
theorem cat_take_le (ls : List SL) (k : Nat) : (cat (ls.take k)).length ≤ (cat ls).length := by
  have : cat ls = cat (ls.take k) ++ cat (ls.drop k) := by
    unfold cat
    rw [← List.flatMap_append, List.take_append_drop]
  rw [this, List.length_append]
  omega
set_option maxRecDepth 100000 in
set_option maxHeartbeats 2000000 in
theorem concat_any (w : World) (A0 : Option Addr) (c0 m : Nat) (ls : List SL) (hm : ls.length = m) (hO : Rd w 1 A0 m c0 (ls.map slv)) (hI : ∀ l ∈ ls, Rd w 1 l.1 l.2.2.length l.2.1 (ints l.2.2)) (hm1 : m ≤ 100000000) (hs : (cat ls).length ≤ 100000000) :
    Calls Tryz.prog 74 #[.slice A0 m c0] w fun e w' => ∃ A c, e = .returned (.slice A (cat ls).length c) ∧ Below w.heap.size w w' ∧ w'.ownsRow w.heap.size 3 1 (.slice A (cat ls).length c) (cat ls).length (ints (cat ls)) := by
  have HM := Lib.hid hm
  clear hm
  go_enter Tryz.func74, Tryz.ntmps74
  go_wp2_with fail
  go_loop [3, 11] (fun t i => ∃ k : Nat, k ≤ m ∧ i = .int .i64 (k : Int) ∧ t = .int .i64 ((cat (ls.take k)).length : Int)) (fun _ i => m - (intOf i).toNat)
  case atStart => exact ⟨0, by omega, rfl, by simp [cat]⟩
  case round =>
    obtain ⟨k, hk, rfl, rfl⟩ := hrel
    have h1 := cat_take_le ls k
    by_cases hlt : k < m
    · have hk' : k < ls.length := by rw [HM.out]; exact hlt
      have h2 := cat_take_le ls (k + 1)
      have h3 := cat_take ls k hk'
      have h4 : (cat (ls.take (k + 1))).length = (cat (ls.take k)).length + (ls[k]).2.2.length := by rw [h3, List.length_append]
      have h5 : (cat (ls.take k)).length + (ls[k]).2.2.length ≤ 100000000 := by omega
      have H4 := Lib.hid h4
      obtain ⟨a, rfl, hb, hc⟩ := hO.at1 hlt
      have e : (ls.map slv).getD k undef = .slice (ls[k]).1 (ls[k]).2.2.length (ls[k]).2.1 := by
        rw [List.getD_eq_getElem?_getD, List.getElem?_map, List.getElem?_eq_getElem hk']; rfl
      rw [e] at hc
      clear h3 h4 h2 e
      generalize ls[k] = l at hc H4 h5
      obtain ⟨l1, l2, l3⟩ := l
      simp only at hc H4 h5
      go_wp2_with fail
      go_round
      case rel => exact ⟨k + 1, by omega, by go_num, by rw [H4.out]; go_num⟩
      case measure => simp [intOf]; omega
    · obtain rfl : k = m := by omega
      have hfull : (cat (ls.take k)).length = (cat ls).length := by rw [List.take_of_length_le (by rw [HM.out]; exact Nat.le_refl _)]
      rw [hfull]
      clear hfull h1
      have HS := Lib.hid hs
      obtain ⟨n, hn⟩ : ∃ n, (cat ls).length = n := ⟨_, rfl⟩
      have HN := Lib.hid hn
      rw [hn] at hs
      simp only [hn]
      clear hn
      have hgrow : Calls Tryz.prog 90 #[.slice none 0 0, .int .i64 (n : Int)] w fun e w' => ∃ A c, e = .returned (.slice A 0 c) ∧ Below w.heap.size w w' ∧ w'.ownsRow w.heap.size 3 1 (.slice A 0 c) 0 [] := by
        rcases Nat.eq_zero_or_pos n with h0 | h0
        · subst h0
          exact (grow_none w).mono fun e w' ⟨he, hw⟩ => ⟨none, 0, he, by rw [← hw]; exact Below.refl _ _, by rw [← hw]; exact World.ownsRow_nil _ _ _ _⟩
        · exact grow_some n w h0 hs
      have HG := Lib.hid hgrow
      clear hgrow
      go_wp2_with fail
      refine (HG.out).mono ?_
      rintro e w1 ⟨A1, c1, rfl, hb1, hown1⟩
      obtain ⟨i0, hi0, hz0, hz1, hz2⟩ := info_parts int_info
      have HI0 := Lib.hid hi0
      have HZ0 := Lib.hid hz0
      have HZ1 := Lib.hid hz1
      have HZ2 := Lib.hid hz2
      have HO1 := Lib.hid hown1
      have HB1 := Lib.hid hb1
      clear hi0 hz0 hz1 hz2 hown1 hb1
      go_wp2_with fail
      go_loopw [6, 27] (fun v i wx => ∃ q : Nat, q ≤ k ∧ i = .int .i64 (q : Int) ∧ Below w.heap.size w wx ∧ wx.ownsRow w.heap.size 3 1 v (cat (ls.take q)).length (ints (cat (ls.take q)))) (fun _ i _ => k - (intOf i).toNat)
      case atStart => exact ⟨0, by omega, rfl, HB1.out, by simpa [cat, ints] using HO1.out⟩
      case round =>
        clear HO1 HB1
        obtain ⟨q, hq, rfl, hbr, hown⟩ := hrel
        obtain ⟨AA, c, rfl⟩ := own_slice hown
        have HB := Lib.hid hbr
        have HO := Lib.hid hown
        have hsz := hbr.size
        clear hbr hown
        by_cases hlt : q < k
        · have hk' : q < ls.length := by rw [HM.out]; exact hlt
          have h2 := cat_take_le ls (q + 1)
          have h3 := cat_take ls q hk'
          have h5 : (cat (ls.take q)).length + (ls[q]).2.2.length ≤ 100000000 := by rw [h3, List.length_append] at h2; have := HS.out; omega
          have H3 := Lib.hid h3
          have hR := Lib.hid ((hI ls[q] (List.getElem_mem hk')))
          obtain ⟨a, rfl, hb, hc⟩ := hO.at1 hlt
          have e : (ls.map slv).getD q undef = .slice (ls[q]).1 (ls[q]).2.2.length (ls[q]).2.1 := by
            rw [List.getD_eq_getElem?_getD, List.getElem?_map, List.getElem?_eq_getElem hk']; rfl
          rw [e] at hc
          have hc' := (HB.out.cell (p := a.add q) (by rw [add_block]; exact hb)).trans hc
          clear h3 h2 e hc
          generalize ls[q] = l at hc' H3 h5 hR
          obtain ⟨l1, l2, l3⟩ := l
          simp only at hc' H3 h5 hR
          generalize cat (ls.take q) = P at HO H3 h5
          cases l1 with
          | none =>
            have hl2 : l2 = 0 := hR.out.nil rfl
            have hl3 : l3.length = 0 := by have := hR.out.cap; omega
            subst hl2
            obtain rfl : l3 = [] := List.eq_nil_of_length_eq_zero hl3
            clear hl3 hR
            simp only [List.length_nil] at hc'
            go_wp2_with (at_builtin; refine wpList_append_own_none rfl (.tmp 31) (.tmp 32) 24 rfl w.heap.size 3 i0 1 Tryz.underlying24 HI0.out (.slice AA P.length c) P.length (ints P) rfl HO.out rfl ?_)
            go_wp2_with fail
            go_roundw
            case rel => exact ⟨q + 1, by omega, by go_num, HB.out, by rw [H3.out, List.append_nil]; exact HO.out⟩
            case measure => simp [intOf]; omega
          | some ad =>
            go_wp2_with (at_builtin; refine wpList_append_own _ rfl (.tmp 31) (.tmp 32) 24 rfl w.heap.size 3 i0 (.int .i64 0) 1 8 Tryz.underlying24 HI0.out HZ0.out HZ1.out HZ2.out rfl (by decide) (.slice AA P.length c) P.length (ints P) rfl HO.out ad l3.length l2 (ints l3) rfl (by rw [ints_length, Nat.mul_one]) ?c1 ?c2 ?c3 ?c4 ?c5 ?_)
            case c1 =>
              intro j u hj
              obtain ⟨b, hb1, hb2, hb3⟩ := (hR.out.later HB.out).read j u hj
              injection hb1 with hb1
              subst hb1
              exact hb3
            case c2 =>
              intro u hu
              obtain ⟨x, -, rfl⟩ := List.mem_map.1 hu
              rfl
            case c3 => unfold maxLen; omega
            case c4 => omega
            case c5 => exact hsz
            intro v' w2 hown2 hg2 hnil
            have HO2 := Lib.hid hown2
            have HB2 := Lib.hid (HB.out.grown hg2 hsz (fun k hk => own_base HO.out hk))
            clear hown2 hg2 hnil
            go_wp2_with fail
            go_roundw
            case rel => exact ⟨q + 1, by omega, by go_num, HB2.out, by rw [H3.out, List.length_append, ints_append]; exact HO2.out⟩
            case measure => simp [intOf]; omega
        · obtain rfl : q = k := by omega
          have hfull : cat (ls.take q) = cat ls := by rw [List.take_of_length_le (by rw [HM.out]; exact Nat.le_refl _)]
          have HF := Lib.hid hfull
          clear hfull
          go_wp2_with fail
          go_ret
          refine ⟨AA, c, ?_, HB.out, ?_⟩
          · rw [HF.out, HN.out]; rfl
          · have := HO.out; rw [HF.out] at this; exact this
end Go.Proofs.YtaajnmggbhnndaaGreatDoor

namespace Go.Proofs.YtaajnmggbhnndaaGreatDoor
open Go.RowKit
set_option linter.unusedVariables false
set_option linter.unusedSimpArgs false

section
variable {ops : Array Oper} {rest : List Oper} {o : Oper} {a : Act} {Q : Exit → Act → World → Prop}
/-- a whole row behind a row of one's own, whatever the element -/
theorem wpList_app_row (hgd : o.guard = none) (s x : Operand) (ts te : TypeId) (ho : o.op = .call { callee := .builtin .append, args := #[s, x], argTypes := #[ts, ts] })
    (hts : Tryz.prog.underlying ts = some (.slice te)) (z : Value) (sz bytes : Nat) (hinfo : (Tryz.prog.info? te).map (fun i => (i.zero, i.size, i.bytes)) = some (some z, sz, bytes)) (hzs : z.cells.size = sz) (hsz : 0 < sz) (hby : bytes ≤ 100000)
    {W : World} (base : Nat) (A : Option Addr) (k c : Nat) (L : List Value) (hs : a.eval s = .slice A k c) (O : W.ownsRow base te sz (.slice A k c) k L)
    (A2 : Option Addr) (n d : Nat) (M : List Value) (hx : a.eval x = .slice A2 n d) (hr : Rd W sz A2 n d M) (h1 : ∀ u ∈ M, u.oneCell' = true) (hk : k + n ≤ 100000000) (hb : base ≤ W.heap.size)
    (h : ∀ A' c' w', w'.ownsRow base te sz (.slice A' (k + n) c') (k + n) (L ++ M) → W.grownBy w' (Value.slice A k c).ownBlock → wpList Tryz.prog ops Q rest (a.put o.dst (.slice A' (k + n) c')) w') :
    wpList Tryz.prog ops Q (o :: rest) a W := by
  obtain ⟨i0, hi0, hz0, hz1, hz2⟩ := info_parts hinfo
  cases A2 with
  | none =>
    have hd : d = 0 := hr.nil rfl
    have hn : n = 0 := by have := hr.cap; omega
    subst hd hn
    have hM : M = [] := List.eq_nil_of_length_eq_zero (by have := hr.len; omega)
    subst hM
    refine wpList_append_own_none hgd s x ts ho base te i0 sz hts hi0 (.slice A k c) k L hs O hx ?_
    exact h A c W (by simpa using O) (World.grownBy.refl W _)
  | some ad =>
    refine wpList_append_own _ hgd s x ts ho base te i0 z sz bytes hts hi0 hz0 hz1 hz2 hzs hsz (.slice A k c) k L hs O ad n d M hx hr.len ?_ h1 ?_ ?_ hb ?_
    · intro j u hj
      obtain ⟨a', e, -, hc⟩ := hr.read j u hj
      obtain rfl := Option.some.inj e
      exact hc
    · unfold maxLen; omega
    · have := Nat.mul_le_mul hk hby; omega
    · intro v' w' hown hg _
      obtain ⟨A', c', rfl⟩ := own_slice hown
      exact h A' c' w' hown hg
end
theorem Rd.chg {w w' : World} {X : Nat → Prop} {size n c : Nat} {A : Option Addr} {xs : List Value} (h : Rd w size A n c xs) (hc : Chg w w' X) (hx : ∀ g, blkOf A = some g → ¬ X g) : Rd w' size A n c xs := by
  refine ⟨h.len, h.cap, h.nil, fun j u hj => ?_⟩
  obtain ⟨a, rfl, hb, hr⟩ := h.read j u hj
  refine ⟨a, rfl, Nat.lt_of_lt_of_le hb hc.size, ?_⟩
  rw [← hr]
  have hh := hc.block a.block hb (hx _ rfl)
  rw [← add_block a j] at hh
  simp only [World.cell?, hh]
/-- the cells of a part of a row -/
theorem Rd.sub {w : World} {size n c : Nat} {A : Option Addr} {xs : List Value} (h : Rd w size A n c xs) {i m : Nat} (hi : i + m ≤ n) (hm : 0 < m ∨ True) : Rd w size (A.map fun a => a.add (i * size)) m (c - i) ((xs.drop (i * size)).take (m * size)) := by
  refine ⟨?_, by have := h.cap; omega, ?_, fun j u hj => ?_⟩
  · have := h.len
    have h2 : (i + m) * size ≤ n * size := Nat.mul_le_mul_right _ hi
    rw [Nat.add_mul] at h2
    simp only [List.length_take, List.length_drop, this]
    omega
  · intro e
    cases A with
    | none => have := h.nil rfl; omega
    | some a => cases e
  · have hj1 : j < m * size := by
      rcases Nat.lt_or_ge j (m * size) with hlt | hge
      · exact hlt
      · rw [List.getElem?_eq_none (by rw [List.length_take]; omega)] at hj; cases hj
    rw [List.getElem?_take_of_lt hj1, List.getElem?_drop] at hj
    obtain ⟨a, rfl, hb, hr⟩ := h.read _ u hj
    refine ⟨_, rfl, by rw [add_block]; exact hb, ?_⟩
    rw [← hr]
    congr 1
    unfold Addr.add
    by_cases h0 : i * size = 0 <;> by_cases h1 : j = 0 <;> simp [h0, h1, Nat.add_assoc]
/-- a slice of ints lies in memory -/
def SLIn (w : World) (l : SL) : Prop := Rd w 1 l.1 l.2.2.length l.2.1 (ints l.2.2)
theorem SLIn.later {w w' : World} {l : SL} (h : SLIn w l) (hb : Below w.heap.size w w') : SLIn w' l := Rd.later h hb
/-- slices of ints, in a row -/
structure SLs (w : World) (A : Option Addr) (c : Nat) (ls : List SL) : Prop where
  row : Rd w 1 A ls.length c (ls.map slv)
  all : ∀ l ∈ ls, SLIn w l
theorem SLs.later {w w' : World} {A : Option Addr} {c : Nat} {ls : List SL} (h : SLs w A c ls) (hb : Below w.heap.size w w') : SLs w' A c ls := ⟨h.row.later hb, fun l hl => (h.all l hl).later hb⟩
/-- what the slices read as -/
def con (ls : List SL) : List (List Int) := ls.map fun l => l.2.2
theorem con_length (ls : List SL) : (con ls).length = ls.length := by simp [con]
theorem SLs.at_ {w : World} {A : Option Addr} {c : Nat} {ls : List SL} (h : SLs w A c ls) {k : Nat} (hk : k < ls.length) :
    ∃ a, A = some a ∧ a.block < w.heap.size ∧ w.cell? (a.add k) = some (slv ls[k]) ∧ SLIn w ls[k] := by
  obtain ⟨a, hA, hb, hr⟩ := h.row.at1 hk
  refine ⟨a, hA, hb, ?_, h.all _ (List.getElem_mem hk)⟩
  rw [hr, List.getD_eq_getElem?_getD, List.getElem?_map, List.getElem?_eq_getElem hk]
  rfl
theorem slv_one (ls : List SL) : ∀ u ∈ ls.map slv, u.oneCell' = true := by
  intro u hu
  obtain ⟨x, -, rfl⟩ := List.mem_map.1 hu
  rfl
end Go.Proofs.YtaajnmggbhnndaaGreatDoor

namespace Go.Proofs.YtaajnmggbhnndaaGreatDoor.Cut
set_option linter.unusedVariables false
set_option linter.unusedSimpArgs false
/-- so far as i and j they are made one -/
def MrgAt (a b out : List Int) (i j : Nat) : Prop := mrg a b = out ++ mrg (a.drop i) (b.drop j)
theorem MrgAt.start (a b : List Int) : MrgAt a b [] 0 0 := rfl
theorem drop_at {l : List Int} {i : Nat} (h : i < l.length) : l.drop i = l.getD i 0 :: l.drop (i + 1) := by
  rw [List.drop_eq_getElem_cons h]
  congr 1
  rw [List.getD_eq_getElem?_getD, List.getElem?_eq_getElem h]; rfl
theorem mrg_left (x : Int) (a : List Int) {b : List Int} (h : ∀ y b', b = y :: b' → x < y) : mrg (x :: a) b = x :: mrg a b := by
  cases b with
  | nil => simp [mrg]; cases a <;> simp [mrg]
  | cons y b => rw [mrg, if_pos (h y b rfl)]
theorem mrg_right (y : Int) (b : List Int) {a : List Int} (h : ∀ x a', a = x :: a' → y < x) : mrg a (y :: b) = y :: mrg a b := by
  cases a with
  | nil => simp [mrg]
  | cons x a => have := h x a rfl; rw [mrg, if_neg (by omega), if_pos this]
theorem mrg_both (x : Int) (a b : List Int) : mrg (x :: a) (x :: b) = x :: mrg a b := by rw [mrg, if_neg (by omega), if_neg (by omega)]
theorem MrgAt.left {a b out : List Int} {i j : Nat} (h : MrgAt a b out i j) (hi : i < a.length) (hc : j < b.length → a.getD i 0 < b.getD j 0) : MrgAt a b (out ++ [a.getD i 0]) (i + 1) j := by
  unfold MrgAt at h ⊢
  rw [h, drop_at hi, mrg_left, List.append_assoc]; rfl
  intro y b' hb
  have hj : j < b.length := by
    rcases Nat.lt_or_ge j b.length with h1 | h1
    · exact h1
    · rw [List.drop_eq_nil_of_le h1] at hb; cases hb
  rw [drop_at hj] at hb
  injection hb with h1 h2
  rw [← h1]; exact hc hj
theorem MrgAt.right {a b out : List Int} {i j : Nat} (h : MrgAt a b out i j) (hj : j < b.length) (hc : i < a.length → b.getD j 0 < a.getD i 0) : MrgAt a b (out ++ [b.getD j 0]) i (j + 1) := by
  unfold MrgAt at h ⊢
  rw [h, drop_at hj, mrg_right, List.append_assoc]; rfl
  intro x a' ha
  have hi : i < a.length := by
    rcases Nat.lt_or_ge i a.length with h1 | h1
    · exact h1
    · rw [List.drop_eq_nil_of_le h1] at ha; cases ha
  rw [drop_at hi] at ha
  injection ha with h1 h2
  rw [← h1]; exact hc hi
theorem MrgAt.both {a b out : List Int} {i j : Nat} (h : MrgAt a b out i j) (hi : i < a.length) (hj : j < b.length) (hc : a.getD i 0 = b.getD j 0) : MrgAt a b (out ++ [a.getD i 0]) (i + 1) (j + 1) := by
  unfold MrgAt at h ⊢
  rw [h, drop_at hi, drop_at hj, ← hc, mrg_both, List.append_assoc]; rfl
theorem MrgAt.done {a b out : List Int} {i j : Nat} (h : MrgAt a b out i j) (hi : a.length ≤ i) (hj : b.length ≤ j) : mrg a b = out := by
  unfold MrgAt at h
  rw [h, List.drop_eq_nil_of_le hi, List.drop_eq_nil_of_le hj]; simp [mrg]
theorem MrgAt.more {a b out : List Int} {i j : Nat} (h : MrgAt a b out i j) (hc : i < a.length ∨ j < b.length) : out.length < (mrg a b).length := by
  unfold MrgAt at h
  rw [h, List.length_append]
  have := mrg_len (a.drop i) (b.drop j)
  simp only [List.length_drop] at this
  omega
end Go.Proofs.YtaajnmggbhnndaaGreatDoor.Cut
namespace Go.Proofs.YtaajnmggbhnndaaGreatDoor
open Go.RowKit
set_option linter.unusedVariables false
set_option linter.unusedSimpArgs false
/-- what a Merge tells: a list of its own, or none -/
def MrgOut (o : Option (List Int)) (w : World) (r : Ending) (w' : World) : Prop :=
  ∃ A c, r = .returned (.tuple #[.slice A (o.getD []).length c, .bool o.isSome]) ∧ Below w.heap.size w w' ∧ w'.ownsRow w.heap.size 3 1 (.slice A (o.getD []).length c) (o.getD []).length (ints (o.getD []))
theorem MrgOut.none {w w' : World} (h : Below w.heap.size w w') : MrgOut none w (.returned (.tuple #[.slice none 0 0, .bool false])) w' :=
  ⟨Option.none, 0, rfl, h, World.ownsRow_nil _ _ _ _⟩
theorem MrgOut.some {w w' : World} {A : Option Addr} {c : Nat} {L : List Int} (h : Below w.heap.size w w') (ho : w'.ownsRow w.heap.size 3 1 (.slice A L.length c) L.length (ints L)) : MrgOut (some L) w (.returned (.tuple #[.slice A L.length c, .bool true])) w' :=
  ⟨A, c, rfl, h, ho⟩
theorem merge_none {a b : List Int} {k : Int} (h : ¬ (Cut.Rises a ∧ Cut.Rises b ∧ 0 ≤ k ∧ k ≤ 6 ∧ ((Cut.mrg a b).length : Int) ≤ k)) : Cut.merge a b k = none := by unfold Cut.merge; rw [if_neg h]
theorem merge_some {a b : List Int} {k : Int} (h : Cut.Rises a ∧ Cut.Rises b ∧ 0 ≤ k ∧ k ≤ 6 ∧ ((Cut.mrg a b).length : Int) ≤ k) : Cut.merge a b k = some (Cut.mrg a b) := by unfold Cut.merge; rw [if_pos h]
set_option maxRecDepth 100000 in
set_option maxHeartbeats 4000000 in
theorem rmerge_any (A B : Option Addr) (c d : Nat) (a b : List Int) (k : Int) (w : World) (ha : Rd w 1 A a.length c (ints a)) (hb : Rd w 1 B b.length d (ints b)) (hna : a.length ≤ 1000000) (hnb : b.length ≤ 1000000) :
    Calls Tryz.prog 66 #[.slice A a.length c, .slice B b.length d, .int .i64 k] w (MrgOut (Cut.merge a b k) w) := by
  have HRA := Lib.hid (fun (W : World) (hB : Below w.heap.size w W) => rrises_any A c a W (ha.later hB) hna)
  have HRB := Lib.hid (fun (W : World) (hB : Below w.heap.size w W) => rrises_any B d b W (hb.later hB) hnb)
  have HA := Lib.hid ha
  have HB := Lib.hid hb
  obtain ⟨n, hn⟩ : ∃ n, a.length = n := ⟨_, rfl⟩
  obtain ⟨m, hm⟩ : ∃ n, b.length = n := ⟨_, rfl⟩
  have HN := Lib.hid hn
  have HM := Lib.hid hm
  rw [hn] at HA HRA hna ⊢
  rw [hm] at HB HRB hnb ⊢
  clear ha hb hn hm
  by_cases h1 : Cut.Rises a
  case neg =>
    rw [merge_none (fun h => h1 h.1)]
    have e1 : decide (Cut.Rises a) = false := decide_eq_false h1
    rw [e1] at HRA
    clear h1 e1
    go_enter Tryz.func66, Tryz.ntmps66
    go_wp2_with (go_at_call 80; refine (HRA.out _ (Below.refl _ _)).mono ?_; rintro e w1 ⟨rfl, hb1⟩)
    go_ret2
    exact .none hb1
  have e1 : decide (Cut.Rises a) = true := decide_eq_true h1
  rw [e1] at HRA
  by_cases h2 : Cut.Rises b
  case neg =>
    rw [merge_none (fun h => h2 h.2.1)]
    have e2 : decide (Cut.Rises b) = false := decide_eq_false h2
    rw [e2] at HRB
    clear h1 e1 h2 e2
    go_enter Tryz.func66, Tryz.ntmps66
    go_wp2_with fail
    refine (HRA.out _ (Below.refl _ _)).mono ?_
    rintro e w1 ⟨rfl, hb1⟩
    have B1 := Lib.hid hb1
    clear hb1
    go_wp2_with fail
    refine (HRB.out _ B1.out).mono ?_
    rintro e w2 ⟨rfl, hb2⟩
    have B2 := Lib.hid (below_then B1.out hb2)
    clear hb2
    go_wp2_with fail
    go_ret2
    exact .none B2.out
  have e2 : decide (Cut.Rises b) = true := decide_eq_true h2
  rw [e2] at HRB
  have H12 := Lib.hid (And.intro h1 h2)
  clear h1 e1 h2 e2
  by_cases hk : 0 ≤ k ∧ k ≤ 6
  case neg =>
    rw [merge_none (fun h => hk ⟨h.2.2.1, h.2.2.2.1⟩)]
    by_cases hk0 : k < 0
    · go_enter Tryz.func66, Tryz.ntmps66
      go_wp2_with fail
      refine (HRA.out _ (Below.refl _ _)).mono ?_
      rintro e w1 ⟨rfl, hb1⟩
      have B1 := Lib.hid hb1
      clear hb1
      go_wp2_with fail
      refine (HRB.out _ B1.out).mono ?_
      rintro e w2 ⟨rfl, hb2⟩
      have B2 := Lib.hid (below_then B1.out hb2)
      clear hb2
      go_wp2_with fail
      go_ret2
      exact .none B2.out
    · have hk6 : 6 < k := by omega
      go_enter Tryz.func66, Tryz.ntmps66
      go_wp2_with fail
      refine (HRA.out _ (Below.refl _ _)).mono ?_
      rintro e w1 ⟨rfl, hb1⟩
      have B1 := Lib.hid hb1
      clear hb1
      go_wp2_with fail
      refine (HRB.out _ B1.out).mono ?_
      rintro e w2 ⟨rfl, hb2⟩
      have B2 := Lib.hid (below_then B1.out hb2)
      clear hb2
      go_wp2_with fail
      go_ret2
      exact .none B2.out
  obtain ⟨kn, rfl⟩ : ∃ q : Nat, k = (q : Int) := ⟨k.toNat, by omega⟩
  have hk0 : ¬ (kn : Int) < 0 := by omega
  have hk6 : ¬ 6 < (kn : Int) := by omega
  have hk7 : kn ≤ 6 := by omega
  clear hk
  obtain ⟨o, ho⟩ : ∃ o, Cut.merge a b (kn : Int) = o := ⟨_, rfl⟩
  have HOO := Lib.hid ho
  rw [ho]
  clear ho
  go_enter Tryz.func66, Tryz.ntmps66
  go_wp2_with fail
  refine (HRA.out _ (Below.refl _ _)).mono ?_
  rintro e w1 ⟨rfl, hb1⟩
  have B1 := Lib.hid hb1
  clear hb1
  go_wp2_with fail
  refine (HRB.out _ B1.out).mono ?_
  rintro e w2 ⟨rfl, hb2⟩
  have B2 := Lib.hid (below_then B1.out hb2)
  clear hb2 B1 HRA HRB
  go_wp2_with fail
  go_loopw [8, 9, 10] (fun v8 v9 v10 wx => ∃ (i j : Nat) (AO : Option Addr) (cO : Nat) (out : List Int), i ≤ n ∧ j ≤ m ∧ out.length ≤ kn ∧ v8 = .slice AO out.length cO ∧ v9 = .int .i64 (i : Int) ∧ v10 = .int .i64 (j : Int) ∧ Cut.MrgAt a b out i j ∧ wx.ownsRow w.heap.size 3 1 (.slice AO out.length cO) out.length (ints out) ∧ Below w.heap.size w wx) (fun _ v9 v10 _ => n + m - (intOf v9).toNat - (intOf v10).toNat)
  case atStart => exact ⟨0, 0, none, 0, [], by omega, by omega, by simp, rfl, rfl, rfl, Cut.MrgAt.start a b, World.ownsRow_nil _ _ _ _, B2.out⟩
  case round =>
    obtain ⟨i, j, AO, cO, out, hi, hj, hol, rfl, rfl, rfl, hat, hown, hbe⟩ := hrel
    have HAT := Lib.hid hat
    have HO := Lib.hid hown
    have B3 := Lib.hid hbe
    have hsz := hbe.size
    clear hat hown hbe B2
    by_cases hend : i < n ∨ j < m
    case neg =>
      have hmrg := HAT.out.done (by rw [HN.out]; omega) (by rw [HM.out]; omega)
      have ho : o = some out := by rw [← HOO.out, merge_some ⟨H12.out.1, H12.out.2, by omega, by omega, by rw [hmrg]; omega⟩, hmrg]
      have HOS := Lib.hid ho
      have hi1 : ¬ (i : Int) < (n : Int) := by omega
      have hj1 : ¬ (j : Int) < (m : Int) := by omega
      clear hmrg ho
      go_wp2_with fail
      go_ret2
      rw [HOS.out]
      exact .some B3.out HO.out
    have HEND := Lib.hid hend
    by_cases hfull : out.length = kn
    · have hmore := HAT.out.more (by rw [HN.out, HM.out]; exact HEND.out)
      have ho : o = none := by rw [← HOO.out, merge_none (fun h => by have := h.2.2.2.2; omega)]
      have HON := Lib.hid ho
      have hfull' : (out.length : Int) = (kn : Int) := by omega
      clear hmore hend ho
      by_cases hi1 : (i : Int) < (n : Int)
      · go_wp2_with fail
        go_ret2
        rw [HON.out]
        exact .none B3.out
      · have hj1 : (j : Int) < (m : Int) := by have := HEND.out; omega
        go_wp2_with fail
        go_ret2
        rw [HON.out]
        exact .none B3.out
    have hfull' : ¬ (out.length : Int) = (kn : Int) := by omega
    have hlen : out.length + 1 ≤ kn := by omega
    have hol7 : out.length ≤ 6 := by omega
    -- the arms: from the first, from the second, from both
    have next1 : ∀ (z : Int) (i2 j2 : Nat) (A2 : Option Addr) (c2 : Nat) (wy : World), i2 ≤ n → j2 ≤ m → n + m - i2 - j2 < n + m - i - j → Cut.MrgAt a b (out ++ [z]) i2 j2 → wy.ownsRow w.heap.size 3 1 (.slice A2 (out.length + 1) c2) (out.length + 1) (ints (out ++ [z])) → Below w.heap.size w wy →
        ∃ (i j : Nat) (AO : Option Addr) (cO : Nat) (out' : List Int), i ≤ n ∧ j ≤ m ∧ out'.length ≤ kn ∧ Value.slice A2 (out.length + 1) c2 = .slice AO out'.length cO ∧ Value.int .i64 (i2 : Int) = .int .i64 (i : Int) ∧ Value.int .i64 (j2 : Int) = .int .i64 (j : Int) ∧ Cut.MrgAt a b out' i j ∧ wy.ownsRow w.heap.size 3 1 (.slice AO out'.length cO) out'.length (ints out') ∧ Below w.heap.size w wy :=
      fun z i2 j2 A2 c2 wy h1 h2 _ h4 h5 h6 => ⟨i2, j2, A2, c2, out ++ [z], h1, h2, by simp; omega, by simp, rfl, rfl, h4, by simpa using h5, h6⟩
    have NEXT := Lib.hid next1
    clear next1
    have HFIN := Lib.hid (fun (z : Int) (i2 j2 : Nat) (w9 W : World) (A2 : Option Addr) (c2 : Nat) (hb9 : Below wr.heap.size wr W) (h : (W.alloc (.cells #[.int .i64 z] 3)).grownBy w9 (Value.slice AO out.length cO).ownBlock) =>
      (show Below w.heap.size w w9 from (below_then (below_then B3.out hb9) (below_new W (.cells #[.int .i64 z] 3))).grown h (Nat.le_trans (below_then B3.out hb9).size (by simp)) (fun k hk => own_base HO.out hk)))
    by_cases hjm : j < m
    case neg =>
      have hin : i < n := by omega
      obtain rfl : j = m := by omega
      obtain ⟨pa, hA, hab, d0⟩ := (HA.out.later B3.out).int (k := i) hin
      have hat2 := HAT.out.left (by rw [HN.out]; exact hin) (fun h => absurd h (by rw [HM.out]; exact hjm))
      have HAT2 := Lib.hid hat2
      have hi1 : (i : Int) < (n : Int) := by omega
      clear hat2 hend
      subst hA
      generalize a.getD i 0 = x at d0 HAT2
      go_wp2_with fail
      refine wp_region_still_in (by kernel_rfl) (by kernel_rfl) fun St9 ne9 V9 hV9 hS9 => ?_
      have qd0 := still_cell hV9 d0
      repeat (first | go_big_quiet_step (fail) | quiet_step (fail))
      refine wpQuiet_nil ?_
      intro _ hw9
      obtain ⟨s9, rfl⟩ := hw9
      have hb9 := hV9 s9
      clear qd0 hS9
      generalize V9 s9 = w9 at hb9 ⊢
      clear hV9 s9 V9 ne9 St9
      have hb9L := Lib.hid hb9
      have d9 := (hb9.cell (p := pa.add i) (by rw [add_block]; exact hab)).trans d0
      clear hb9 d0
      have hbL := hb9L
      have O9 := Lib.hid (own_keep HO.out hbL.out)
      have hs9 := (below_then B3.out hbL.out).size
      go_wp2_with (at_builtin; refine wpList_app_int rfl (.tmp 74) (.tmp 79) rfl w.heap.size AO out.length cO out rfl (by exact O9.out) x rfl (by omega) (by exact hs9) ?_; intro A2 c2 wz hownz hgz)
      have HOWNZ := Lib.hid hownz
      have HGZ := Lib.hid (HFIN.out x 0 0 wz _ A2 c2 hbL.out hgz)
      clear hownz hgz
      go_wp2_with fail
      go_roundw
      case rel => exact NEXT.out x (i + 1) j A2 c2 wz (by omega) (by omega) (by omega) HAT2.out HOWNZ.out HGZ.out
      case measure => simp [intOf]; omega
    have hj1 : (j : Int) < (m : Int) := by omega
    have hj2 : ¬ (j : Int) = (m : Int) := by omega
    obtain ⟨pb, hB, hbb, e0⟩ := (HB.out.later B3.out).int (k := j) hjm
    by_cases hin : i < n
    case neg =>
      obtain rfl : i = n := by omega
      have hat2 := HAT.out.right (by rw [HM.out]; exact hjm) (fun h => absurd h (by rw [HN.out]; exact hin))
      have HAT2 := Lib.hid hat2
      clear hat2 hend
      subst hB
      generalize b.getD j 0 = y at e0 HAT2
      go_wp2_with fail
      refine wp_region_still_in (by kernel_rfl) (by kernel_rfl) fun St9 ne9 V9 hV9 hS9 => ?_
      have qe0 := still_cell hV9 e0
      repeat (first | go_big_quiet_step (fail) | quiet_step (fail))
      refine wpQuiet_nil ?_
      intro _ hw9
      obtain ⟨s9, rfl⟩ := hw9
      have hb9 := hV9 s9
      clear qe0 hS9
      generalize V9 s9 = w9 at hb9 ⊢
      clear hV9 s9 V9 ne9 St9
      have hb9L := Lib.hid hb9
      have e9 := (hb9.cell (p := pb.add j) (by rw [add_block]; exact hbb)).trans e0
      clear hb9 e0
      go_wp2_with fail
      refine wp_region_still_in (by kernel_rfl) (by kernel_rfl) fun St8 ne8 V8 hV8 hS8 => ?_
      have qe9 := still_cell hV8 e9
      repeat (first | go_big_quiet_step (fail) | quiet_step (fail))
      refine wpQuiet_nil ?_
      intro _ hw8
      obtain ⟨s8, rfl⟩ := hw8
      have hb8 := hV8 s8
      clear qe9 hS8
      generalize V8 s8 = w8 at hb8 ⊢
      clear hV8 s8 V8 ne8 St8
      have hb8L := Lib.hid hb8
      have e8 := (hb8.cell (p := pb.add j) (by rw [add_block]; exact Nat.lt_of_lt_of_le hbb hb9L.out.size)).trans e9
      clear hb8 e9
      have hbL := Lib.hid (below_then hb9L.out hb8L.out)
      have O9 := Lib.hid (own_keep HO.out hbL.out)
      have hs9 := (below_then B3.out hbL.out).size
      go_wp2_with (at_builtin; refine wpList_app_int rfl (.tmp 99) (.tmp 104) rfl w.heap.size AO out.length cO out rfl (by exact O9.out) y rfl (by omega) (by exact hs9) ?_; intro A2 c2 wz hownz hgz)
      have HOWNZ := Lib.hid hownz
      have HGZ := Lib.hid (HFIN.out y 0 0 wz _ A2 c2 hbL.out hgz)
      clear hownz hgz
      go_wp2_with fail
      go_roundw
      case rel => exact NEXT.out y i (j + 1) A2 c2 wz (by omega) (by omega) (by omega) HAT2.out HOWNZ.out HGZ.out
      case measure => simp [intOf]; omega
    have hi1 : (i : Int) < (n : Int) := by omega
    have hi2 : ¬ (i : Int) = (n : Int) := by omega
    obtain ⟨pa, hA, hab, d0⟩ := (HA.out.later B3.out).int (k := i) hin
    have hl := fun h => HAT.out.left (by rw [HN.out]; exact hin) (fun _ => h)
    have hr := fun h => HAT.out.right (by rw [HM.out]; exact hjm) (fun _ => h)
    have hbo := HAT.out.both (by rw [HN.out]; exact hin) (by rw [HM.out]; exact hjm)
    have HL := Lib.hid hl
    have HR2 := Lib.hid hr
    have HBO := Lib.hid hbo
    clear hl hr hbo hend
    subst hA
    subst hB
    generalize a.getD i 0 = x at d0 HL HR2 HBO
    generalize b.getD j 0 = y at e0 HL HR2 HBO
    by_cases hxy : x < y
    case pos =>
      have HAT2 := Lib.hid (HL.out hxy)
      go_wp2_with fail
      refine wp_region_still_in (by kernel_rfl) (by kernel_rfl) fun St9 ne9 V9 hV9 hS9 => ?_
      have qd0 := still_cell hV9 d0
      have qe0 := still_cell hV9 e0
      repeat (first | go_big_quiet_step (fail) | quiet_step (fail))
      refine wpQuiet_nil ?_
      intro _ hw9
      obtain ⟨s9, rfl⟩ := hw9
      have hb9 := hV9 s9
      clear qd0 qe0 hS9
      generalize V9 s9 = w9 at hb9 ⊢
      clear hV9 s9 V9 ne9 St9
      have hb9L := Lib.hid hb9
      have d9 := (hb9.cell (p := pa.add i) (by rw [add_block]; exact hab)).trans d0
      have e9 := (hb9.cell (p := pb.add j) (by rw [add_block]; exact hbb)).trans e0
      clear hb9 d0 e0
      have hbL := hb9L
      have O9 := Lib.hid (own_keep HO.out hbL.out)
      have hs9 := (below_then B3.out hbL.out).size
      go_wp2_with (at_builtin; refine wpList_app_int rfl (.tmp 74) (.tmp 79) rfl w.heap.size AO out.length cO out rfl (by exact O9.out) x rfl (by omega) (by exact hs9) ?_; intro A2 c2 wz hownz hgz)
      have HOWNZ := Lib.hid hownz
      have HGZ := Lib.hid (HFIN.out x 0 0 wz _ A2 c2 hbL.out hgz)
      clear hownz hgz
      go_wp2_with fail
      go_roundw
      case rel => exact NEXT.out x (i + 1) j A2 c2 wz (by omega) (by omega) (by omega) HAT2.out HOWNZ.out HGZ.out
      case measure => simp [intOf]; omega
    by_cases hyx : y < x
    case pos =>
      have HAT2 := Lib.hid (HR2.out hyx)
      have hdx : decide (x < y) = false := decide_eq_false hxy
      have hdy : decide (y < x) = true := decide_eq_true hyx
      go_wp2_with fail
      refine wp_region_still_in (by kernel_rfl) (by kernel_rfl) fun St9 ne9 V9 hV9 hS9 => ?_
      have qd0 := still_cell hV9 d0
      have qe0 := still_cell hV9 e0
      repeat (first | go_big_quiet_step (fail) | quiet_step (fail))
      refine wpQuiet_nil ?_
      intro _ hw9
      obtain ⟨s9, rfl⟩ := hw9
      have hb9 := hV9 s9
      clear qd0 qe0 hS9
      generalize V9 s9 = w9 at hb9 ⊢
      clear hV9 s9 V9 ne9 St9
      have hb9L := Lib.hid hb9
      have d9 := (hb9.cell (p := pa.add i) (by rw [add_block]; exact hab)).trans d0
      have e9 := (hb9.cell (p := pb.add j) (by rw [add_block]; exact hbb)).trans e0
      clear hb9 d0 e0
      go_wp2_with fail
      refine wp_region_still_in (by kernel_rfl) (by kernel_rfl) fun St8 ne8 V8 hV8 hS8 => ?_
      have qd9 := still_cell hV8 d9
      have qe9 := still_cell hV8 e9
      repeat (first | go_big_quiet_step (fail) | quiet_step (fail))
      refine wpQuiet_nil ?_
      intro _ hw8
      obtain ⟨s8, rfl⟩ := hw8
      have hb8 := hV8 s8
      clear qd9 qe9 hS8
      generalize V8 s8 = w8 at hb8 ⊢
      clear hV8 s8 V8 ne8 St8
      have hb8L := Lib.hid hb8
      have d8 := (hb8.cell (p := pa.add i) (by rw [add_block]; exact Nat.lt_of_lt_of_le hab hb9L.out.size)).trans d9
      have e8 := (hb8.cell (p := pb.add j) (by rw [add_block]; exact Nat.lt_of_lt_of_le hbb hb9L.out.size)).trans e9
      clear hb8 d9 e9
      have hbL := Lib.hid (below_then hb9L.out hb8L.out)
      have O9 := Lib.hid (own_keep HO.out hbL.out)
      have hs9 := (below_then B3.out hbL.out).size
      go_wp2_with (at_builtin; refine wpList_app_int rfl (.tmp 99) (.tmp 104) rfl w.heap.size AO out.length cO out rfl (by exact O9.out) y rfl (by omega) (by exact hs9) ?_; intro A2 c2 wz hownz hgz)
      have HOWNZ := Lib.hid hownz
      have HGZ := Lib.hid (HFIN.out y 0 0 wz _ A2 c2 hbL.out hgz)
      clear hownz hgz
      go_wp2_with fail
      go_roundw
      case rel => exact NEXT.out y i (j + 1) A2 c2 wz (by omega) (by omega) (by omega) HAT2.out HOWNZ.out HGZ.out
      case measure => simp [intOf]; omega
    obtain rfl : x = y := by omega
    have HAT2 := Lib.hid (HBO.out rfl)
    go_wp2_with fail
    refine wp_region_still_in (by kernel_rfl) (by kernel_rfl) fun St9 ne9 V9 hV9 hS9 => ?_
    have qd0 := still_cell hV9 d0
    have qe0 := still_cell hV9 e0
    repeat (first | go_big_quiet_step (fail) | quiet_step (fail))
    refine wpQuiet_nil ?_
    intro _ hw9
    obtain ⟨s9, rfl⟩ := hw9
    have hb9 := hV9 s9
    clear qd0 qe0 hS9
    generalize V9 s9 = w9 at hb9 ⊢
    clear hV9 s9 V9 ne9 St9
    have hb9L := Lib.hid hb9
    have d9 := (hb9.cell (p := pa.add i) (by rw [add_block]; exact hab)).trans d0
    have e9 := (hb9.cell (p := pb.add j) (by rw [add_block]; exact hbb)).trans e0
    clear hb9 d0 e0
    go_wp2_with fail
    refine wp_region_still_in (by kernel_rfl) (by kernel_rfl) fun St8 ne8 V8 hV8 hS8 => ?_
    have qd9 := still_cell hV8 d9
    have qe9 := still_cell hV8 e9
    repeat (first | go_big_quiet_step (fail) | quiet_step (fail))
    refine wpQuiet_nil ?_
    intro _ hw8
    obtain ⟨s8, rfl⟩ := hw8
    have hb8 := hV8 s8
    clear qd9 qe9 hS8
    generalize V8 s8 = w8 at hb8 ⊢
    clear hV8 s8 V8 ne8 St8
    have hb8L := Lib.hid hb8
    have d8 := (hb8.cell (p := pa.add i) (by rw [add_block]; exact Nat.lt_of_lt_of_le hab hb9L.out.size)).trans d9
    have e8 := (hb8.cell (p := pb.add j) (by rw [add_block]; exact Nat.lt_of_lt_of_le hbb hb9L.out.size)).trans e9
    clear hb8 d9 e9
    have hbL := Lib.hid (below_then hb9L.out hb8L.out)
    have O9 := Lib.hid (own_keep HO.out hbL.out)
    have hs9 := (below_then B3.out hbL.out).size
    go_wp2_with (at_builtin; refine wpList_app_int rfl (.tmp 41) (.tmp 46) rfl w.heap.size AO out.length cO out rfl (by exact O9.out) x rfl (by omega) (by exact hs9) ?_; intro A2 c2 wz hownz hgz)
    have HOWNZ := Lib.hid hownz
    have HGZ := Lib.hid (HFIN.out x 0 0 wz _ A2 c2 hbL.out hgz)
    clear hownz hgz
    go_wp2_with fail
    go_roundw
    case rel => exact NEXT.out x (i + 1) (j + 1) A2 c2 wz (by omega) (by omega) (by omega) HAT2.out HOWNZ.out HGZ.out
    case measure => simp [intOf]; omega
end Go.Proofs.YtaajnmggbhnndaaGreatDoor

namespace Go.Proofs.YtaajnmggbhnndaaGreatDoor.Cut
set_option linter.unusedVariables false
set_option linter.unusedSimpArgs false
/-- the depth of a set of leaves -/
def deepTo (d : List Int) (l : List Int) : Nat → Int
  | 0 => 0
  | k + 1 => max (deepTo d l k) (d.getD (l.getD k 0).toNat 0)
def deep (d l : List Int) : Int := deepTo d l l.length + 1
/-- by the first place where they differ -/
def lexB : List Int → List Int → Bool
  | x :: a, y :: b => if x ≠ y then decide (x < y) else lexB a b
  | _, _ => false
def aheadB (d a b : List Int) : Bool := if deep d a ≠ deep d b then decide (deep d a < deep d b) else if a.length ≠ b.length then decide (a.length < b.length) else lexB a b
theorem deepTo_bound {d l : List Int} {M : Int} (h0 : 0 ≤ M) (h : ∀ x ∈ d, x ≤ M) : ∀ k, 0 ≤ deepTo d l k ∧ deepTo d l k ≤ M
  | 0 => ⟨Int.le_refl _, h0⟩
  | k + 1 => by
    have ih := deepTo_bound h0 h (l := l) k
    have hd : d.getD (l.getD k 0).toNat 0 ≤ M := by
      rw [List.getD_eq_getElem?_getD]
      cases hg : d[(l.getD k 0).toNat]? with
      | none => exact h0
      | some v => exact h v (List.mem_of_getElem? hg)
    simp only [deepTo]
    omega
theorem deep_bound {d l : List Int} {M : Int} (h0 : 0 ≤ M) (h : ∀ x ∈ d, x ≤ M) : 1 ≤ deep d l ∧ deep d l ≤ M + 1 := by
  have := deepTo_bound h0 h (l := l) l.length
  unfold deep; omega
theorem lexB_step {a b : List Int} {i : Nat} (ha : i < a.length) (hb : i < b.length) : lexB (a.drop i) (b.drop i) = if a.getD i 0 ≠ b.getD i 0 then decide (a.getD i 0 < b.getD i 0) else lexB (a.drop (i + 1)) (b.drop (i + 1)) := by
  rw [drop_at ha, drop_at hb, lexB]
theorem lexB_end {a b : List Int} {i : Nat} (ha : a.length ≤ i) : lexB (a.drop i) (b.drop i) = false := by
  rw [List.drop_eq_nil_of_le ha, lexB]
  intro x a' y b' h; cases h
end Go.Proofs.YtaajnmggbhnndaaGreatDoor.Cut
namespace Go.Proofs.YtaajnmggbhnndaaGreatDoor
open Go.RowKit
set_option linter.unusedVariables false
set_option linter.unusedSimpArgs false
/-- depths: of so many nodes, small -/
structure DepIn (w : World) (A : Option Addr) (c N : Nat) (d : List Int) : Prop where
  rd : Rd w 1 A N c (ints d)
  small : ∀ x ∈ d, x ≤ 1000000
theorem DepIn.later {w w' : World} {A : Option Addr} {c N : Nat} {d : List Int} (h : DepIn w A c N d) (hb : Below w.heap.size w w') : DepIn w' A c N d := ⟨h.rd.later hb, h.small⟩
/-- all of them are nodes of those -/
def NodesIn (N : Nat) (l : List Int) : Prop := ∀ x ∈ l, 0 ≤ x ∧ x < (N : Int)
theorem getD_mem {l : List Int} {k : Nat} (h : k < l.length) : l.getD k 0 ∈ l := by
  rw [List.getD_eq_getElem?_getD, List.getElem?_eq_getElem h]; exact List.getElem_mem h
set_option maxRecDepth 100000 in
set_option maxHeartbeats 2000000 in
theorem rdeep_any (D A : Option Addr) (cd c N : Nat) (d l : List Int) (w : World) (hd : DepIn w D cd N d) (hl : Rd w 1 A l.length c (ints l)) (hn : NodesIn N l) (hll : l.length ≤ 1000000) :
    Calls Tryz.prog 52 #[.slice D N cd, .slice A l.length c] w fun r w' => r = .returned (.int .i64 (Cut.deep d l)) ∧ Below w.heap.size w w' := by
  obtain ⟨r, hr⟩ : ∃ r, Cut.deep d l = r := ⟨_, rfl⟩
  have HR := Lib.hid hr
  rw [hr]
  have HD := Lib.hid hd
  have HL := Lib.hid hl
  have HN := Lib.hid hn
  obtain ⟨m, hm⟩ : ∃ n, l.length = n := ⟨_, rfl⟩
  have HM := Lib.hid hm
  rw [hm] at HL hll ⊢
  have HB := Lib.hid (fun k => Cut.deepTo_bound (d := d) (l := l) (M := 1000000) (by omega) hd.small k)
  clear hd hl hn hr hm
  go_enter Tryz.func52, Tryz.ntmps52
  go_wp2_with fail
  go_loopw [5, 6] (fun v5 v6 wx => ∃ k : Nat, k ≤ m ∧ v6 = .int .i64 (k : Int) ∧ v5 = .int .i64 (Cut.deepTo d l k) ∧ Below w.heap.size w wx) (fun _ v6 _ => m - (intOf v6).toNat)
  case atStart => exact ⟨0, by omega, rfl, rfl, Below.refl _ _⟩
  case round =>
    obtain ⟨k, hk, rfl, rfl, hbe⟩ := hrel
    have B3 := Lib.hid hbe
    clear hbe
    by_cases hlt : k < m
    case neg =>
      obtain rfl : k = m := by omega
      have hb := HB.out k
      have hr : Cut.deepTo d l k + 1 = r := by rw [← HR.out]; unfold Cut.deep; rw [HM.out]
      have HRR := Lib.hid hr
      generalize Cut.deepTo d l k = t at hb HRR
      obtain ⟨hb0, hb1⟩ := hb
      go_wp2_with fail
      go_ret
      exact ⟨by rw [← HRR.out]; rfl, B3.out⟩
    have hnod := HN.out _ (getD_mem (l := l) (k := k) (by rw [HM.out]; exact hlt))
    obtain ⟨x, hx⟩ : ∃ x : Nat, l.getD k 0 = (x : Int) := ⟨(l.getD k 0).toNat, by omega⟩
    obtain ⟨pa, hA, hab, d0⟩ := (HL.out.later B3.out).int (k := k) hlt
    obtain ⟨pd, hD, hdb, e0⟩ := (HD.out.rd.later B3.out).int (k := x) (by omega)
    have hst : Cut.deepTo d l (k + 1) = max (Cut.deepTo d l k) (d.getD x 0) := by simp only [Cut.deepTo, hx, Int.toNat_natCast]
    have HST := Lib.hid hst
    have hb := HB.out k
    have hxN : (x : Int) < (N : Int) := by omega
    have hkm : (k : Int) < (m : Int) := by omega
    rw [hx] at d0
    clear hst hnod hx
    subst hA
    subst hD
    generalize Cut.deepTo d l k = t at hb HST
    generalize d.getD x 0 = y at e0 HST
    obtain ⟨hb0, hb1⟩ := hb
    go_wp2_with fail
    go_roundw
    case rel => exact ⟨k + 1, by omega, by go_num, by rw [HST.out], B3.out⟩
    case measure => simp [intOf]; omega
set_option maxRecDepth 100000 in
set_option maxHeartbeats 2000000 in
theorem ahead_any (D A B : Option Addr) (cd c e N : Nat) (d a b : List Int) (w : World) (hd : DepIn w D cd N d) (ha : Rd w 1 A a.length c (ints a)) (hb : Rd w 1 B b.length e (ints b)) (hna : NodesIn N a) (hnb : NodesIn N b) (hla : a.length ≤ 1000000) (hlb : b.length ≤ 1000000) :
    Calls Tryz.prog 81 #[.slice D N cd, .slice A a.length c, .slice B b.length e] w fun r w' => r = .returned (.bool (Cut.aheadB d a b)) ∧ Below w.heap.size w w' := by
  obtain ⟨r, hr⟩ : ∃ r, Cut.aheadB d a b = r := ⟨_, rfl⟩
  have HR := Lib.hid hr
  rw [hr]
  have HDA := Lib.hid (fun (W : World) (hB : Below w.heap.size w W) => rdeep_any D A cd c N d a W (hd.later hB) (ha.later hB) hna hla)
  have HDB := Lib.hid (fun (W : World) (hB : Below w.heap.size w W) => rdeep_any D B cd e N d b W (hd.later hB) (hb.later hB) hnb hlb)
  have h1 := Cut.deep_bound (d := d) (l := a) (M := 1000000) (by omega) hd.small
  have h2 := Cut.deep_bound (d := d) (l := b) (M := 1000000) (by omega) hd.small
  have HA := Lib.hid ha
  have HB := Lib.hid hb
  obtain ⟨x, hx⟩ : ∃ x, Cut.deep d a = x := ⟨_, rfl⟩
  obtain ⟨y, hy⟩ : ∃ x, Cut.deep d b = x := ⟨_, rfl⟩
  obtain ⟨n, hn⟩ : ∃ x, a.length = x := ⟨_, rfl⟩
  obtain ⟨m, hm⟩ : ∃ x, b.length = x := ⟨_, rfl⟩
  unfold Cut.aheadB at hr
  rw [hx, hy, hn, hm] at hr
  have HX := Lib.hid (And.intro hn hm)
  rw [hx] at HDA h1
  rw [hy] at HDB h2
  rw [hn] at HDA HA hla ⊢
  rw [hm] at HDB HB hlb ⊢
  clear hd ha hb hna hnb HR hx hy hn hm
  obtain ⟨h11, h12⟩ := h1
  obtain ⟨h21, h22⟩ := h2
  by_cases hxy : x = y
  case neg =>
    rw [if_pos hxy] at hr
    have HR := Lib.hid hr
    have hne : (x != y) = true := by simp [hxy]
    clear hr
    go_enter Tryz.func81, Tryz.ntmps81
    go_wp2_with fail
    refine (HDA.out _ (Below.refl _ _)).mono ?_
    rintro e w1 ⟨rfl, hb1⟩
    have B1 := Lib.hid hb1
    clear hb1
    go_wp2_with fail
    refine (HDB.out _ B1.out).mono ?_
    rintro e w2 ⟨rfl, hb2⟩
    have B2 := Lib.hid (below_then B1.out hb2)
    clear hb2
    go_wp2_with fail
    refine (HDA.out _ B2.out).mono ?_
    rintro e w3 ⟨rfl, hb3⟩
    have B3 := Lib.hid (below_then B2.out hb3)
    clear hb3
    go_wp2_with fail
    refine (HDB.out _ B3.out).mono ?_
    rintro e w4 ⟨rfl, hb4⟩
    have B4 := Lib.hid (below_then B3.out hb4)
    clear hb4
    go_wp2_with fail
    go_ret
    exact ⟨by rw [← HR.out]; rfl, B4.out⟩
  subst hxy
  rw [if_neg (by simp)] at hr
  by_cases hnm : n = m
  case neg =>
    rw [if_pos hnm] at hr
    have HR := Lib.hid hr
    have hne : ((n : Int) != (m : Int)) = true := by simp; omega
    have hdc : decide (n < m) = decide ((n : Int) < (m : Int)) := by simp
    have HDC := Lib.hid hdc
    clear hr hdc
    go_enter Tryz.func81, Tryz.ntmps81
    go_wp2_with fail
    refine (HDA.out _ (Below.refl _ _)).mono ?_
    rintro e w1 ⟨rfl, hb1⟩
    have B1 := Lib.hid hb1
    clear hb1
    go_wp2_with fail
    refine (HDB.out _ B1.out).mono ?_
    rintro e w2 ⟨rfl, hb2⟩
    have B2 := Lib.hid (below_then B1.out hb2)
    clear hb2
    go_wp2_with fail
    go_ret
    exact ⟨by rw [← HR.out, HDC.out]; rfl, B2.out⟩
  subst hnm
  rw [if_neg (by simp)] at hr
  have HR := Lib.hid hr
  clear hr
  go_enter Tryz.func81, Tryz.ntmps81
  go_wp2_with fail
  refine (HDA.out _ (Below.refl _ _)).mono ?_
  rintro e w1 ⟨rfl, hb1⟩
  have B1 := Lib.hid hb1
  clear hb1
  go_wp2_with fail
  refine (HDB.out _ B1.out).mono ?_
  rintro e w2 ⟨rfl, hb2⟩
  have B2 := Lib.hid (below_then B1.out hb2)
  clear hb2 B1
  go_wp2_with fail
  go_loopw [7] (fun v7 wx => ∃ k : Nat, k ≤ n ∧ v7 = .int .i64 (k : Int) ∧ Cut.lexB (a.drop k) (b.drop k) = r ∧ Below w.heap.size w wx) (fun v7 _ => n - (intOf v7).toNat)
  case atStart => exact ⟨0, by omega, rfl, by simpa using HR.out, B2.out⟩
  case round =>
    obtain ⟨k, hk, rfl, hlx, hbe⟩ := hrel
    have B3 := Lib.hid hbe
    clear hbe
    by_cases hlt : k < n
    case neg =>
      have hrf : r = false := by rw [← hlx, Cut.lexB_end (by rw [HX.out.1]; omega)]
      have HRF := Lib.hid hrf
      have hlt' : ¬ (k : Int) < (n : Int) := by omega
      clear hlx hrf
      go_wp2_with fail
      go_ret
      exact ⟨by rw [HRF.out]; rfl, B3.out⟩
    rw [Cut.lexB_step (by rw [HX.out.1]; exact hlt) (by rw [HX.out.2]; exact hlt)] at hlx
    obtain ⟨pa, hA, hab, d0⟩ := (HA.out.later B3.out).int (k := k) hlt
    obtain ⟨pb, hB, hbb, e0⟩ := (HB.out.later B3.out).int (k := k) hlt
    subst hA
    subst hB
    have hkm : (k : Int) < (n : Int) := by omega
    generalize a.getD k 0 = u at hlx d0
    generalize b.getD k 0 = v at hlx e0
    by_cases huv : u = v
    · subst huv
      rw [if_neg (by simp)] at hlx
      have HLX := Lib.hid hlx
      clear hlx
      go_wp2_with fail
      refine wp_region_still_in (by kernel_rfl) (by kernel_rfl) fun St9 ne9 V9 hV9 hS9 => ?_
      have qd0 := still_cell hV9 d0
      have qe0 := still_cell hV9 e0
      repeat (first | go_big_quiet_step (fail) | quiet_step (fail))
      refine wpQuiet_nil ?_
      intro _ hw9
      obtain ⟨s9, rfl⟩ := hw9
      have hb9 := hV9 s9
      clear qd0 qe0 hS9
      generalize V9 s9 = w9 at hb9 ⊢
      clear hV9 s9 V9 ne9 St9
      have B9 := Lib.hid (below_then B3.out hb9)
      clear hb9
      go_wp2_with fail
      go_roundw
      case rel => exact ⟨k + 1, by omega, by go_num, HLX.out, B9.out⟩
      case measure => simp [intOf]; omega
    · rw [if_pos huv] at hlx
      have HLX := Lib.hid hlx
      have hne : (u != v) = true := by simp [huv]
      clear hlx
      go_wp2_with fail
      refine wp_region_still_in (by kernel_rfl) (by kernel_rfl) fun St9 ne9 V9 hV9 hS9 => ?_
      have qd0 := still_cell hV9 d0
      have qe0 := still_cell hV9 e0
      repeat (first | go_big_quiet_step (fail) | quiet_step (fail))
      refine wpQuiet_nil ?_
      intro _ hw9
      obtain ⟨s9, rfl⟩ := hw9
      have hb9 := hV9 s9
      clear qd0 qe0 hS9
      generalize V9 s9 = w9 at hb9 ⊢
      clear hV9 s9 V9 ne9 St9
      have d9 := (hb9.cell (p := pa.add k) (by rw [add_block]; exact hab)).trans d0
      have e9 := (hb9.cell (p := pb.add k) (by rw [add_block]; exact hbb)).trans e0
      have B9 := Lib.hid (below_then B3.out hb9)
      clear hb9 d0 e0
      go_wp2_with fail
      refine wp_region_still_in (by kernel_rfl) (by kernel_rfl) fun St8 ne8 V8 hV8 hS8 => ?_
      have qd9 := still_cell hV8 d9
      have qe9 := still_cell hV8 e9
      repeat (first | go_big_quiet_step (fail) | quiet_step (fail))
      refine wpQuiet_nil ?_
      intro _ hw8
      obtain ⟨s8, rfl⟩ := hw8
      have hb8 := hV8 s8
      clear qd9 qe9 hS8
      generalize V8 s8 = w8 at hb8 ⊢
      clear hV8 s8 V8 ne8 St8
      have B8 := Lib.hid (below_then B9.out hb8)
      clear hb8
      go_wp2_with fail
      go_ret
      exact ⟨by rw [← HLX.out]; rfl, B8.out⟩
end Go.Proofs.YtaajnmggbhnndaaGreatDoor

namespace Go.Proofs.YtaajnmggbhnndaaGreatDoor.Cut
set_option linter.unusedVariables false
set_option linter.unusedSimpArgs false
/-- where a set stands -/
def placeOf (d : List Int) (L : List (List Int)) (x : List Int) : Nat := (L.takeWhile fun y => aheadB d y x).length
/-- a set more, if it is not there -/
def put (d : List Int) (L : List (List Int)) (x : List Int) : List (List Int) :=
  if L[placeOf d L x]? = some x then L else L.take (placeOf d L x) ++ [x] ++ L.drop (placeOf d L x)
theorem takeWhile_len {α : Type} (p : α → Bool) : ∀ (L : List α) (k : Nat), (∀ (j : Nat) (h : j < L.length), j < k → p L[j] = true) → k ≤ L.length → (∀ h : k < L.length, p L[k] = false) → (L.takeWhile p).length = k
  | [], k, _, hk, _ => by simp at hk; simp [hk]
  | x :: L, 0, _, _, h => by have := h (by simp); simp at this; simp [this]
  | x :: L, k + 1, h1, h2, h3 => by
    have hx : p x = true := h1 0 (by simp) (by omega)
    rw [List.takeWhile_cons, if_pos hx, List.length_cons]
    rw [takeWhile_len p L k (fun j h hj => h1 (j + 1) (by simpa using h) (by omega)) (by simpa using h2) (fun h => h3 (by simpa using h))]
end Go.Proofs.YtaajnmggbhnndaaGreatDoor.Cut
namespace Go.Proofs.YtaajnmggbhnndaaGreatDoor
open Go.RowKit
set_option linter.unusedVariables false
set_option linter.unusedSimpArgs false
theorem Rd.pre {w : World} {size n c : Nat} {A : Option Addr} {xs : List Value} (h : Rd w size A n c xs) {k : Nat} (hk : k ≤ n) : Rd w size A k c (xs.take (k * size)) := by
  have hle := Nat.mul_le_mul_right size hk
  refine ⟨by rw [List.length_take, h.len]; omega, Nat.le_trans hk h.cap, h.nil, fun j u hj => ?_⟩
  have hj1 : j < k * size := by
    rcases Nat.lt_or_ge j (k * size) with hlt | hge
    · exact hlt
    · rw [List.getElem?_eq_none (by rw [List.length_take]; omega)] at hj; cases hj
  rw [List.getElem?_take_of_lt hj1] at hj
  exact h.read j u hj
theorem Rd.none0 (w : World) (size : Nat) (A : Option Addr) (c : Nat) (h : A = none → c = 0) : Rd w size A 0 c [] := ⟨by simp, by omega, h, fun j u hj => by simp at hj⟩
theorem Rd.suf {w : World} {n c : Nat} {A : Option Addr} {xs : List Value} (h : Rd w 1 A n c xs) {k : Nat} (hk : k ≤ n) {a : Addr} (hA : A = some a) : Rd w 1 (if c = k then some a else some (a.add k)) (n - k) (c - k) (xs.drop k) := by
  have hlen := h.len
  have hcap := h.cap
  refine ⟨by rw [List.length_drop]; omega, by omega, fun e => (by split at e <;> cases e), fun j u hj => ?_⟩
  rw [List.getElem?_drop] at hj
  have hlt : k + j < xs.length := by
    rcases Nat.lt_or_ge (k + j) xs.length with h1 | h1
    · exact h1
    · rw [List.getElem?_eq_none h1] at hj; cases hj
  obtain ⟨a', e, hb, hr⟩ := h.read _ u hj
  rw [hA] at e
  obtain rfl := Option.some.inj e
  rw [if_neg (by omega)]
  refine ⟨_, rfl, by rw [add_block]; exact hb, ?_⟩
  rw [← hr]
  congr 1
  unfold Addr.add
  by_cases h0 : k = 0 <;> by_cases h1 : j = 0 <;> simp [h0, h1, Nat.add_assoc]
theorem slice_info : (Tryz.prog.info? 24).map (fun i => (i.zero, i.size, i.bytes)) = some (some (.slice none 0 0), 1, 24) := by kernel_rfl
/-- what put tells -/
def PutSt (d : List Int) (L : List SL) (x : SL) (w : World) (A : Option Addr) (c : Nat) (ls : List SL) (w' : World) : Prop := Below w.heap.size w w' ∧ SLs w' A c ls ∧ con ls = Cut.put d (con L) x.2.2 ∧ ∀ l ∈ ls, l ∈ L ∨ l = x
def PutOut (d : List Int) (L : List SL) (x : SL) (w : World) (r : Ending) (w' : World) : Prop :=
  ∃ A c ls, r = .returned (.slice A (ls : List SL).length c) ∧ PutSt d L x w A c ls w'
theorem con_at {ls : List SL} {k : Nat} (h : k < ls.length) : (con ls)[k]'(by rw [con_length]; exact h) = ls[k].2.2 := by simp [con]
set_option maxRecDepth 100000 in
set_option maxHeartbeats 4000000 in
theorem put_any (D A : Option Addr) (cd c N : Nat) (d : List Int) (ls : List SL) (x : SL) (w : World) (hd : DepIn w D cd N d) (hls : SLs w A c ls) (hx : SLIn w x) (hN : ∀ l ∈ ls, NodesIn N l.2.2 ∧ l.2.2.length ≤ 6) (hxN : NodesIn N x.2.2 ∧ x.2.2.length ≤ 6) (hll : ls.length ≤ 10000) :
    Calls Tryz.prog 67 #[.slice D N cd, .slice A ls.length c, .slice x.1 x.2.2.length x.2.1] w (PutOut d ls x w) := by
  have HAH := Lib.hid (fun (W : World) (hB : Below w.heap.size w W) (k : Nat) (hk : k < ls.length) => ahead_any D ls[k].1 x.1 cd ls[k].2.1 x.2.1 N d ls[k].2.2 x.2.2 W (hd.later hB) ((hls.all _ (List.getElem_mem hk)).later hB) (hx.later hB) (hN _ (List.getElem_mem hk)).1 hxN.1 (by have := (hN _ (List.getElem_mem hk)).2; omega) (by have := hxN.2; omega))
  have HEQ := Lib.hid (fun (W : World) (hB : Below w.heap.size w W) (k : Nat) (hk : k < ls.length) => rints_any W ls[k].1 x.1 ls[k].2.1 x.2.1 ls[k].2.2 x.2.2 ((hls.all _ (List.getElem_mem hk)).later hB) (hx.later hB) (by have := (hN _ (List.getElem_mem hk)).2; omega))
  have HLS := Lib.hid hls
  have HX := Lib.hid hx
  obtain ⟨n, hn⟩ : ∃ n, ls.length = n := ⟨_, rfl⟩
  have HNN := Lib.hid hn
  obtain ⟨X, cX, xl⟩ := x
  simp only at HAH HEQ HX ⊢
  obtain ⟨xn, hxn⟩ : ∃ n, xl.length = n := ⟨_, rfl⟩
  have HXN := Lib.hid hxn
  have hnc : n ≤ c := by have := hls.row.cap; omega
  rw [hxn] at HAH HEQ ⊢
  rw [hn] at hll ⊢
  clear hd hls hx hN hxN hn hxn
  go_enter Tryz.func67, Tryz.ntmps67
  go_wp2_with fail
  go_loopw [7] (fun i wx => ∃ k : Nat, k ≤ n ∧ i = .int .i64 (k : Int) ∧ (∀ (j : Nat) (h : j < ls.length), j < k → Cut.aheadB d ls[j].2.2 xl = true) ∧ Below w.heap.size w wx) (fun i _ => n - (intOf i).toNat)
  case atStart => exact ⟨0, by omega, rfl, fun j h hj => absurd hj (by omega), Below.refl _ _⟩
  case round =>
    obtain ⟨k, hk, rfl, hah, hB⟩ := hrel
    have B1 := Lib.hid hB
    have HA := Lib.hid hah
    clear hB hah
    -- what follows the loop, at place k
    have hput : (∀ h : k < ls.length, Cut.aheadB d ls[k].2.2 xl = false) → Cut.placeOf d (con ls) xl = k := fun h => by
      refine Cut.takeWhile_len _ (con ls) k (fun j hj hjk => ?_) (by rw [con_length, HNN.out]; exact hk) (fun hj => ?_)
      · rw [con_length] at hj; rw [con_at hj]; exact HA.out j hj hjk
      · rw [con_length] at hj; rw [con_at hj]; exact h hj
    have HPUT := Lib.hid hput
    clear hput
    have hnew : (∀ h : k < ls.length, Cut.aheadB d ls[k].2.2 xl = false) → (∀ h : k < ls.length, ls[k].2.2 ≠ xl) → ∀ A' c' w', SLs w' A' c' (ls.take k ++ [((X, cX, xl) : SL)] ++ ls.drop k) → Below w.heap.size w w' → PutOut d ls (X, cX, xl) w (.returned (.slice A' (n + 1) c')) w' := fun h1 h2 A' c' w' hs hb => by
      refine ⟨A', c', _, ?_, hb, hs, ?_, fun l hl => ?_⟩
      · simp only [List.length_append, List.length_take, List.length_drop, HNN.out]
        congr 2
        simp; omega
      · show con _ = Cut.put d (con ls) xl
        unfold Cut.put
        rw [HPUT.out h1, if_neg]
        · simp [con]
        · intro he
          rcases Nat.lt_or_ge k ls.length with hlt | hge
          · rw [List.getElem?_eq_getElem (by rw [con_length]; exact hlt), con_at hlt] at he
            exact h2 hlt (Option.some.inj he)
          · rw [List.getElem?_eq_none (by rw [con_length]; exact hge)] at he; cases he
      · rcases List.mem_append.1 hl with hl | hl
        · rcases List.mem_append.1 hl with hl | hl
          · exact .inl (List.mem_of_mem_take hl)
          · exact .inr (by simpa using hl)
        · exact .inl (List.mem_of_mem_drop hl)
    have HNEW := Lib.hid hnew
    clear hnew
    by_cases hlt : k < n
    · have hkl : k < ls.length := by rw [HNN.out]; exact hlt
      obtain ⟨a, hA, hab, d0, hin⟩ := HLS.out.at_ hkl
      subst hA
      have d1 := (B1.out.cell (p := a.add k) (by rw [add_block]; exact hab)).trans d0
      have hlt' : (k : Int) < (n : Int) := by omega
      have HAK := Lib.hid (fun W hB => HAH.out W hB k hkl)
      have HEK := Lib.hid (fun W hB => HEQ.out W hB k hkl)
      have HNX := Lib.hid (show Cut.aheadB d ls[k].2.2 xl = true → ∀ (j : Nat) (h : j < ls.length), j < k + 1 → Cut.aheadB d ls[j].2.2 xl = true from fun h j hj hjk => by
        rcases Nat.lt_or_ge j k with h3 | h3
        · exact HA.out j hj h3
        · obtain rfl : j = k := by omega
          exact h)
      have HNO := Lib.hid (show Cut.aheadB d ls[k].2.2 xl = false → ∀ h : k < ls.length, Cut.aheadB d ls[k].2.2 xl = false from fun h _ => h)
      have HNQ := Lib.hid (show ls[k].2.2 ≠ xl → ∀ h : k < ls.length, ls[k].2.2 ≠ xl from fun h _ => h)
      have HYES := Lib.hid (show Cut.aheadB d ls[k].2.2 xl = false → ls[k].2.2 = xl → ∀ w', Below w.heap.size w w' → PutOut d ls (X, cX, xl) w (.returned (.slice (some a) n c)) w' from fun h1 h2 w' hb => by
        refine ⟨some a, c, ls, by rw [HNN.out], hb, HLS.out.later hb, ?_, fun l hl => .inl hl⟩
        show con ls = Cut.put d (con ls) xl
        unfold Cut.put
        rw [HPUT.out (fun _ => h1), List.getElem?_eq_getElem (by rw [con_length]; exact hkl), con_at hkl, h2, if_pos rfl])
      obtain ⟨lk, hlk⟩ : ∃ l, ls[k] = l := ⟨_, rfl⟩
      have HLK := Lib.hid hlk
      rw [hlk] at d1 HAK HEK HNX HNO HNQ HYES
      obtain ⟨l1, l2, l3⟩ := lk
      simp only [slv] at d1 HAK HEK HNX HNO HNQ HYES
      clear d0 hin hlk
      cases hah : Cut.aheadB d l3 xl with
      | true =>
        rw [hah] at HAK
        have HNX2 := Lib.hid (HNX.out hah)
        clear hah HYES HNO HEK
        go_wp2_with fail
        refine (HAK.out _ B1.out).mono ?_
        rintro e w2 ⟨rfl, hb2⟩
        have B2 := Lib.hid (below_then B1.out hb2)
        clear hb2 d1
        go_wp2_with fail
        go_roundw
        case rel => exact ⟨k + 1, by omega, by go_num, HNX2.out, B2.out⟩
        case measure => simp [intOf]; omega
      | false =>
        rw [hah] at HAK
        have HNO2 := Lib.hid (HNO.out hah)
        have HYES2 := Lib.hid (HYES.out hah)
        clear hah HNX HNO HYES
        go_wp2_with fail
        refine (HAK.out _ B1.out).mono ?_
        rintro e w2 ⟨rfl, hb2⟩
        have B2 := Lib.hid (below_then B1.out hb2)
        clear hb2
        have d2 := (B2.out.cell (p := a.add k) (by rw [add_block]; exact hab)).trans ((B1.out.cell (p := a.add k) (by rw [add_block]; exact hab)).symm.trans d1)
        clear d1
        go_wp2_with fail
        refine (HEK.out _ B2.out).mono ?_
        rintro e w3 ⟨rfl, hb3⟩
        have B3 := Lib.hid (below_then B2.out hb3)
        clear hb3 d2
        by_cases heq : l3 = xl
        · have HY := Lib.hid (HYES2.out heq)
          have hde : decide (l3 = xl) = true := decide_eq_true heq
          simp only [hde]
          clear heq hde
          go_wp2_with fail
          go_ret
          exact HY.out _ B3.out
        · have HN2 := Lib.hid (HNEW.out HNO2.out (HNQ.out heq))
          have hde : decide (l3 = xl) = false := decide_eq_false heq
          simp only [hde]
          clear heq hde
          have hkc : (k : Int) ≤ (c : Int) := by omega
          have hkn : (k : Int) ≤ (n : Int) := by omega
          have hck : ¬ c = k := by omega
          have R1 := Lib.hid ((HLS.out.row.later B3.out).pre (k := k) (by rw [HNN.out]; omega))
          go_upto_region 8 with (at_builtin; refine wpList_app_row rfl (.tmp 37) (.tmp 40) 105 24 rfl Tryz.underlying105 (.slice none 0 0) 1 24 slice_info rfl (by decide) (by decide) w.heap.size none 0 0 [] rfl (World.ownsRow_nil _ _ _ _) (some a) k c ((ls.map slv).take (k * 1)) rfl R1.out (fun u hu => slv_one ls u (List.mem_of_mem_take hu)) (by omega) B3.out.size ?_; intro A4 c4 w4 hown4 hg4)
          have B4 := Lib.hid (B3.out.grown hg4 B3.out.size (fun k hk => by cases hk))
          have O4 := Lib.hid hown4
          clear hown4 hg4 R1
          rw [Nat.zero_add] at O4
          have H4S := Lib.hid B4.out.size
          go_upto_region 9 with (at_builtin; refine wpList_app_row rfl (.tmp 42) (.tmp 44) 105 24 rfl Tryz.underlying105 (.slice none 0 0) 1 24 slice_info rfl (by decide) (by decide) w.heap.size A4 k c4 ([] ++ (ls.map slv).take (k * 1)) rfl (O4.out.alloc _) (some ⟨w4.heap.size, 0, none⟩) 1 1 [.slice X xn cX] rfl (rd_new w4 24 [.slice X xn cX]) (fun u hu => by rw [List.mem_singleton] at hu; subst hu; rfl) (by omega) (Nat.le_trans H4S.out (by simp)) ?_; intro A5 c5 w5 hown5 hg5)
          have B5 := Lib.hid ((below_then B4.out (below_new w4 _)).grown hg5 (Nat.le_trans H4S.out (by simp)) (fun k hk => own_base O4.out hk))
          have O5 := Lib.hid hown5
          clear hown5 hg5 O4
          have H5S := Lib.hid B5.out.size
          have R2 := Lib.hid (show Rd w5 1 (some (a.add k)) (n - k) (c - k) ((ls.map slv).drop k) from by have h := (HLS.out.row.later B5.out).suf (k := k) (by rw [HNN.out]; exact hk) rfl; rw [HNN.out, if_neg (by omega)] at h; exact h)
          go_wp2_with (at_builtin; refine wpList_app_row rfl (.tmp 46) (.tmp 49) 105 24 rfl Tryz.underlying105 (.slice none 0 0) 1 24 slice_info rfl (by decide) (by decide) w.heap.size A5 (k + 1) c5 ([] ++ (ls.map slv).take (k * 1) ++ [.slice X xn cX]) rfl O5.out (some (a.add k)) (n - k) (c - k) ((ls.map slv).drop k) rfl R2.out (fun u hu => slv_one ls u (List.mem_of_mem_drop hu)) (by omega) H5S.out ?_; intro A6 c6 w6 hown6 hg6)
          have B6 := Lib.hid (B5.out.grown hg6 H5S.out (fun k hk => own_base O5.out hk))
          have hrow := Rd.of_own hown6
          clear hown6 hg6
          go_ret
          have HIN := HN2.out A6 c6 w6 ⟨?hrow, fun l hl => ?hall⟩ B6.out
          · have hsum : k + 1 + (n - k) = n + 1 := by omega
            first | exact HIN | (rw [hsum]; exact HIN)
          case hrow =>
            have hl9 : (ls.take k ++ [((X, cX, xl) : SL)] ++ ls.drop k).length = k + 1 + (n - k) := by simp only [List.length_append, List.length_take, List.length_drop, HNN.out]; first | omega | (simp; done) | (simp; omega)
            rw [hl9]
            simpa [slv, HXN.out, List.map_take, List.map_drop] using hrow
          case hall =>
            rcases List.mem_append.1 hl with hl | hl
            · rcases List.mem_append.1 hl with hl | hl
              · exact (HLS.out.all l (List.mem_of_mem_take hl)).later B6.out
              · rw [List.mem_singleton] at hl
                subst hl
                exact SLIn.later HX.out B6.out
            · exact (HLS.out.all l (List.mem_of_mem_drop hl)).later B6.out
    · obtain rfl : k = n := by omega
      have HN2 := Lib.hid (HNEW.out (fun h => absurd h (by rw [HNN.out]; omega)) (fun h => absurd h (by rw [HNN.out]; omega)))
      have hlt' : ¬ (k : Int) < (k : Int) := by omega
      have hdr : ls.map slv = (ls.map slv) := rfl
      have HDE := Lib.hid (show (ls.map slv).drop k = [] from List.drop_eq_nil_of_le (by rw [List.length_map, HNN.out]; exact Nat.le_refl _))
      cases A with
      | none =>
        have hc0 : c = 0 := HLS.out.row.nil rfl
        obtain rfl : k = 0 := by omega
        subst hc0
        have hkc : (0 : Int) ≤ (0 : Int) := by omega
        have hkk : True := trivial
        have R1 := Lib.hid ((HLS.out.row.later B1.out).pre (k := 0) (by rw [HNN.out]; omega))
        go_upto_region 8 with (at_builtin; refine wpList_app_row rfl (.tmp 37) (.tmp 40) 105 24 rfl Tryz.underlying105 (.slice none 0 0) 1 24 slice_info rfl (by decide) (by decide) w.heap.size none 0 0 [] rfl (World.ownsRow_nil _ _ _ _) none 0 0 ((ls.map slv).take (0 * 1)) rfl R1.out (fun u hu => slv_one ls u (List.mem_of_mem_take hu)) (by omega) B1.out.size ?_; intro A4 c4 w4 hown4 hg4)
        have B4 := Lib.hid (B1.out.grown hg4 B1.out.size (fun k hk => by cases hk))
        have O4 := Lib.hid hown4
        clear hown4 hg4 R1
        rw [Nat.zero_add] at O4
        have H4S := Lib.hid B4.out.size
        go_upto_region 9 with (at_builtin; refine wpList_app_row rfl (.tmp 42) (.tmp 44) 105 24 rfl Tryz.underlying105 (.slice none 0 0) 1 24 slice_info rfl (by decide) (by decide) w.heap.size A4 0 c4 ([] ++ (ls.map slv).take (0 * 1)) rfl (O4.out.alloc _) (some ⟨w4.heap.size, 0, none⟩) 1 1 [.slice X xn cX] rfl (rd_new w4 24 [.slice X xn cX]) (fun u hu => by rw [List.mem_singleton] at hu; subst hu; rfl) (by omega) (Nat.le_trans H4S.out (by simp)) ?_; intro A5 c5 w5 hown5 hg5)
        have B5 := Lib.hid ((below_then B4.out (below_new w4 _)).grown hg5 (Nat.le_trans H4S.out (by simp)) (fun k hk => own_base O4.out hk))
        have O5 := Lib.hid hown5
        clear hown5 hg5 O4
        have H5S := Lib.hid B5.out.size
        have R2 := Lib.hid (show Rd w5 1 none 0 0 ((ls.map slv).drop 0) from by rw [HDE.out]; exact Rd.none0 _ _ _ _ (fun _ => rfl))
        go_wp2_with (at_builtin; refine wpList_app_row rfl (.tmp 46) (.tmp 49) 105 24 rfl Tryz.underlying105 (.slice none 0 0) 1 24 slice_info rfl (by decide) (by decide) w.heap.size A5 (0 + 1) c5 ([] ++ (ls.map slv).take (0 * 1) ++ [.slice X xn cX]) rfl O5.out none 0 0 ((ls.map slv).drop 0) rfl R2.out (fun u hu => slv_one ls u (List.mem_of_mem_drop hu)) (by omega) H5S.out ?_; intro A6 c6 w6 hown6 hg6)
        have B6 := Lib.hid (B5.out.grown hg6 H5S.out (fun k hk => own_base O5.out hk))
        have hrow := Rd.of_own hown6
        clear hown6 hg6
        go_ret
        have HIN := HN2.out A6 c6 w6 ⟨?hrow, fun l hl => ?hall⟩ B6.out
        · have hsum : 0 + 1 + 0 = 0 + 1 := by omega
          first | exact HIN | (rw [hsum]; exact HIN)
        case hrow =>
          have hl9 : (ls.take 0 ++ [((X, cX, xl) : SL)] ++ ls.drop 0).length = 0 + 1 + 0 := by simp only [List.length_append, List.length_take, List.length_drop, HNN.out]; first | omega | (simp; done) | (simp; omega)
          rw [hl9]
          simpa [slv, HXN.out, List.map_take, List.map_drop] using hrow
        case hall =>
          rcases List.mem_append.1 hl with hl | hl
          · rcases List.mem_append.1 hl with hl | hl
            · exact (HLS.out.all l (List.mem_of_mem_take hl)).later B6.out
            · rw [List.mem_singleton] at hl
              subst hl
              exact SLIn.later HX.out B6.out
          · exact (HLS.out.all l (List.mem_of_mem_drop hl)).later B6.out
      | some a =>
        by_cases hck : c = k
        · subst hck
          have hkc : (c : Int) ≤ (c : Int) := by omega
          have hkn : (c : Int) ≤ (c : Int) := by omega
          have R1 := Lib.hid ((HLS.out.row.later B1.out).pre (k := c) (by rw [HNN.out]; omega))
          go_upto_region 8 with (at_builtin; refine wpList_app_row rfl (.tmp 37) (.tmp 40) 105 24 rfl Tryz.underlying105 (.slice none 0 0) 1 24 slice_info rfl (by decide) (by decide) w.heap.size none 0 0 [] rfl (World.ownsRow_nil _ _ _ _) (some a) c c ((ls.map slv).take (c * 1)) rfl R1.out (fun u hu => slv_one ls u (List.mem_of_mem_take hu)) (by omega) B1.out.size ?_; intro A4 c4 w4 hown4 hg4)
          have B4 := Lib.hid (B1.out.grown hg4 B1.out.size (fun k hk => by cases hk))
          have O4 := Lib.hid hown4
          clear hown4 hg4 R1
          rw [Nat.zero_add] at O4
          have H4S := Lib.hid B4.out.size
          go_upto_region 9 with (at_builtin; refine wpList_app_row rfl (.tmp 42) (.tmp 44) 105 24 rfl Tryz.underlying105 (.slice none 0 0) 1 24 slice_info rfl (by decide) (by decide) w.heap.size A4 c c4 ([] ++ (ls.map slv).take (c * 1)) rfl (O4.out.alloc _) (some ⟨w4.heap.size, 0, none⟩) 1 1 [.slice X xn cX] rfl (rd_new w4 24 [.slice X xn cX]) (fun u hu => by rw [List.mem_singleton] at hu; subst hu; rfl) (by omega) (Nat.le_trans H4S.out (by simp)) ?_; intro A5 c5 w5 hown5 hg5)
          have B5 := Lib.hid ((below_then B4.out (below_new w4 _)).grown hg5 (Nat.le_trans H4S.out (by simp)) (fun k hk => own_base O4.out hk))
          have O5 := Lib.hid hown5
          clear hown5 hg5 O4
          have H5S := Lib.hid B5.out.size
          have R2 := Lib.hid (show Rd w5 1 (some a) 0 0 ((ls.map slv).drop c) from by rw [HDE.out]; exact Rd.none0 _ _ _ _ (fun e => by cases e))
          go_wp2_with (at_builtin; refine wpList_app_row rfl (.tmp 46) (.tmp 49) 105 24 rfl Tryz.underlying105 (.slice none 0 0) 1 24 slice_info rfl (by decide) (by decide) w.heap.size A5 (c + 1) c5 ([] ++ (ls.map slv).take (c * 1) ++ [.slice X xn cX]) rfl O5.out (some a) 0 0 ((ls.map slv).drop c) rfl R2.out (fun u hu => slv_one ls u (List.mem_of_mem_drop hu)) (by omega) H5S.out ?_; intro A6 c6 w6 hown6 hg6)
          have B6 := Lib.hid (B5.out.grown hg6 H5S.out (fun k hk => own_base O5.out hk))
          have hrow := Rd.of_own hown6
          clear hown6 hg6
          go_ret
          have HIN := HN2.out A6 c6 w6 ⟨?hrow, fun l hl => ?hall⟩ B6.out
          · have hsum : c + 1 + 0 = c + 1 := by omega
            first | exact HIN | (rw [hsum]; exact HIN)
          case hrow =>
            have hl9 : (ls.take c ++ [((X, cX, xl) : SL)] ++ ls.drop c).length = c + 1 + 0 := by simp only [List.length_append, List.length_take, List.length_drop, HNN.out]; first | omega | (simp; done) | (simp; omega)
            rw [hl9]
            simpa [slv, HXN.out, List.map_take, List.map_drop] using hrow
          case hall =>
            rcases List.mem_append.1 hl with hl | hl
            · rcases List.mem_append.1 hl with hl | hl
              · exact (HLS.out.all l (List.mem_of_mem_take hl)).later B6.out
              · rw [List.mem_singleton] at hl
                subst hl
                exact SLIn.later HX.out B6.out
            · exact (HLS.out.all l (List.mem_of_mem_drop hl)).later B6.out
        · have hkc : (k : Int) ≤ (c : Int) := by omega
          have hkn : (k : Int) ≤ (k : Int) := by omega
          have R1 := Lib.hid ((HLS.out.row.later B1.out).pre (k := k) (by rw [HNN.out]; omega))
          go_upto_region 8 with (at_builtin; refine wpList_app_row rfl (.tmp 37) (.tmp 40) 105 24 rfl Tryz.underlying105 (.slice none 0 0) 1 24 slice_info rfl (by decide) (by decide) w.heap.size none 0 0 [] rfl (World.ownsRow_nil _ _ _ _) (some a) k c ((ls.map slv).take (k * 1)) rfl R1.out (fun u hu => slv_one ls u (List.mem_of_mem_take hu)) (by omega) B1.out.size ?_; intro A4 c4 w4 hown4 hg4)
          have B4 := Lib.hid (B1.out.grown hg4 B1.out.size (fun k hk => by cases hk))
          have O4 := Lib.hid hown4
          clear hown4 hg4 R1
          rw [Nat.zero_add] at O4
          have H4S := Lib.hid B4.out.size
          go_upto_region 9 with (at_builtin; refine wpList_app_row rfl (.tmp 42) (.tmp 44) 105 24 rfl Tryz.underlying105 (.slice none 0 0) 1 24 slice_info rfl (by decide) (by decide) w.heap.size A4 k c4 ([] ++ (ls.map slv).take (k * 1)) rfl (O4.out.alloc _) (some ⟨w4.heap.size, 0, none⟩) 1 1 [.slice X xn cX] rfl (rd_new w4 24 [.slice X xn cX]) (fun u hu => by rw [List.mem_singleton] at hu; subst hu; rfl) (by omega) (Nat.le_trans H4S.out (by simp)) ?_; intro A5 c5 w5 hown5 hg5)
          have B5 := Lib.hid ((below_then B4.out (below_new w4 _)).grown hg5 (Nat.le_trans H4S.out (by simp)) (fun k hk => own_base O4.out hk))
          have O5 := Lib.hid hown5
          clear hown5 hg5 O4
          have H5S := Lib.hid B5.out.size
          have R2 := Lib.hid (show Rd w5 1 (some (a.add k)) 0 (c - k) ((ls.map slv).drop k) from by rw [HDE.out]; exact Rd.none0 _ _ _ _ (fun e => by cases e))
          go_wp2_with (at_builtin; refine wpList_app_row rfl (.tmp 46) (.tmp 49) 105 24 rfl Tryz.underlying105 (.slice none 0 0) 1 24 slice_info rfl (by decide) (by decide) w.heap.size A5 (k + 1) c5 ([] ++ (ls.map slv).take (k * 1) ++ [.slice X xn cX]) rfl O5.out (some (a.add k)) 0 (c - k) ((ls.map slv).drop k) rfl R2.out (fun u hu => slv_one ls u (List.mem_of_mem_drop hu)) (by omega) H5S.out ?_; intro A6 c6 w6 hown6 hg6)
          have B6 := Lib.hid (B5.out.grown hg6 H5S.out (fun k hk => own_base O5.out hk))
          have hrow := Rd.of_own hown6
          clear hown6 hg6
          go_ret
          have HIN := HN2.out A6 c6 w6 ⟨?hrow, fun l hl => ?hall⟩ B6.out
          · have hsum : k + 1 + 0 = k + 1 := by omega
            first | exact HIN | (rw [hsum]; exact HIN)
          case hrow =>
            have hl9 : (ls.take k ++ [((X, cX, xl) : SL)] ++ ls.drop k).length = k + 1 + 0 := by simp only [List.length_append, List.length_take, List.length_drop, HNN.out]; first | omega | (simp; done) | (simp; omega)
            rw [hl9]
            simpa [slv, HXN.out, List.map_take, List.map_drop] using hrow
          case hall =>
            rcases List.mem_append.1 hl with hl | hl
            · rcases List.mem_append.1 hl with hl | hl
              · exact (HLS.out.all l (List.mem_of_mem_take hl)).later B6.out
              · rw [List.mem_singleton] at hl
                subst hl
                exact SLIn.later HX.out B6.out
            · exact (HLS.out.all l (List.mem_of_mem_drop hl)).later B6.out
end Go.Proofs.YtaajnmggbhnndaaGreatDoor

namespace Go.Proofs.YtaajnmggbhnndaaGreatDoor.Cut
set_option linter.unusedVariables false
set_option linter.unusedSimpArgs false
def pairs (a b : List (List Int)) : List (List Int × List Int) := a.flatMap fun x => b.map fun y => (x, y)
def putM (d : List Int) (k : Int) (L : List (List Int)) (p : List Int × List Int) : List (List Int) := match merge p.1 p.2 k with
  | some x => put d L x
  | none => L
/-- the sets of a gate, all of them -/
def gateAll (d : List Int) (a b : List (List Int)) (k : Int) : List (List Int) := (pairs a b).foldl (putM d k) []
def gate (d : List Int) (a b : List (List Int)) (k : Int) : List (List Int) := (gateAll d a b k).take 8
theorem pairs_len (a b : List (List Int)) : (pairs a b).length = a.length * b.length := by
  induction a with
  | nil => simp [pairs]
  | cons x a ih =>
    have e : pairs (x :: a) b = (b.map fun y => (x, y)) ++ pairs a b := by simp [pairs]
    rw [e, List.length_append, ih, List.length_map, List.length_cons, Nat.add_mul]; omega
theorem pairs_at : ∀ (a b : List (List Int)) (i j : Nat) (hi : i < a.length) (hj : j < b.length), (pairs a b)[i * b.length + j]? = some (a[i], b[j])
  | [], b, i, j, hi, hj => by simp at hi
  | x :: a, b, 0, j, hi, hj => by
    have e : pairs (x :: a) b = (b.map fun y => (x, y)) ++ pairs a b := by simp [pairs]
    rw [e, Nat.zero_mul, Nat.zero_add, List.getElem?_append_left (by simpa using hj), List.getElem?_map, List.getElem?_eq_getElem hj]; rfl
  | x :: a, b, i + 1, j, hi, hj => by
    have e : pairs (x :: a) b = (b.map fun y => (x, y)) ++ pairs a b := by simp [pairs]
    have h1 : (i + 1) * b.length + j = b.length + (i * b.length + j) := by rw [Nat.add_mul]; omega
    rw [e, h1, List.getElem?_append_right (by simp)]
    have h2 : b.length + (i * b.length + j) - (b.map fun y => (x, y)).length = i * b.length + j := by simp
    rw [h2]
    have := pairs_at a b i j (by simpa using hi) hj
    simpa using this
/-- so far xs so many pairs -/
def gateTo (d : List Int) (a b : List (List Int)) (k : Int) (n : Nat) : List (List Int) := ((pairs a b).take n).foldl (putM d k) []
theorem gateTo_zero (d : List Int) (a b : List (List Int)) (k : Int) : gateTo d a b k 0 = [] := rfl
theorem gateTo_all (d : List Int) (a b : List (List Int)) (k : Int) : gateTo d a b k (a.length * b.length) = gateAll d a b k := by
  unfold gateTo gateAll
  rw [← pairs_len, List.take_length]
theorem gateTo_next {d : List Int} {a b : List (List Int)} {k : Int} {i j : Nat} (hi : i < a.length) (hj : j < b.length) : gateTo d a b k (i * b.length + j + 1) = putM d k (gateTo d a b k (i * b.length + j)) (a[i], b[j]) := by
  unfold gateTo
  have h := pairs_at a b i j hi hj
  obtain ⟨hlt, he⟩ := List.getElem?_eq_some_iff.1 h
  rw [List.take_succ_eq_append_getElem hlt, List.foldl_append, he]; rfl
theorem put_len (d : List Int) (L : List (List Int)) (x : List Int) : (put d L x).length ≤ L.length + 1 := by
  unfold put
  split
  · omega
  · simp; omega
theorem put_mem {d : List Int} {L : List (List Int)} {x y : List Int} (h : y ∈ put d L x) : y ∈ L ∨ y = x := by
  unfold put at h
  split at h
  · exact .inl h
  · rcases List.mem_append.1 h with h | h
    · rcases List.mem_append.1 h with h | h
      · exact .inl (List.mem_of_mem_take h)
      · exact .inr (by simpa using h)
    · exact .inl (List.mem_of_mem_drop h)
theorem merge_mem {a b x : List Int} {k : Int} (h : merge a b k = some x) : x = mrg a b ∧ Rises x ∧ (x.length : Int) ≤ k ∧ k ≤ 6 ∧ ∀ z, z ∈ x → z ∈ a ∨ z ∈ b := by
  unfold merge at h
  split at h
  · next hc =>
    cases h
    exact ⟨rfl, mrg_rises a b hc.1 hc.2.1, hc.2.2.2.2, hc.2.2.2.1, fun z hz => (mem_mrg a b z).1 hz⟩
  · cases h
end Go.Proofs.YtaajnmggbhnndaaGreatDoor.Cut
namespace Go.Proofs.YtaajnmggbhnndaaGreatDoor
open Go.RowKit
set_option linter.unusedVariables false
set_option linter.unusedSimpArgs false
/-- cuts, and where their leaves lie -/
abbrev CT : Type := SL × Nat
def cutC (cs : List CT) : List Value := cs.flatMap fun c => [slv c.1, .int .u64 (c.2 : Int)]
theorem cutC_length (cs : List CT) : (cutC cs).length = cs.length * 2 := by
  induction cs with
  | nil => rfl
  | cons c cs ih => simp only [cutC, List.flatMap_cons, List.length_append] at *; simp at *; omega
theorem cutC_append (a b : List CT) : cutC (a ++ b) = cutC a ++ cutC b := by simp [cutC]
theorem cutC_get : ∀ (cs : List CT) (k : Nat) (hk : k < cs.length), (cutC cs)[k * 2]? = some (slv cs[k].1) ∧ (cutC cs)[k * 2 + 1]? = some (.int .u64 (cs[k].2 : Int))
  | x :: l, 0, _ => ⟨rfl, rfl⟩
  | x :: l, k + 1, hk => by
    have ih := cutC_get l k (by simpa using hk)
    have e : (k + 1) * 2 = k * 2 + 2 := by omega
    rw [e]
    simpa [cutC] using ih
theorem cutC_one (cs : List CT) : ∀ u ∈ cutC cs, u.oneCell' = true := by
  intro u hu
  obtain ⟨c, -, hc⟩ := List.mem_flatMap.1 hu
  simp at hc
  rcases hc with rfl | rfl <;> rfl
structure CutsIn (w : World) (A : Option Addr) (c : Nat) (cs : List CT) : Prop where
  row : Rd w 2 A cs.length c (cutC cs)
  all : ∀ x ∈ cs, SLIn w x.1
theorem CutsIn.later {w w' : World} {A : Option Addr} {c : Nat} {cs : List CT} (h : CutsIn w A c cs) (hb : Below w.heap.size w w') : CutsIn w' A c cs := ⟨h.row.later hb, fun l hl => (h.all l hl).later hb⟩
/-- the leaves of each -/
def lvs (cs : List CT) : List (List Int) := cs.map fun c => c.1.2.2
theorem lvs_length (cs : List CT) : (lvs cs).length = cs.length := by simp [lvs]
theorem lvs_at {cs : List CT} {k : Nat} (h : k < cs.length) : (lvs cs)[k]'(by rw [lvs_length]; exact h) = cs[k].1.2.2 := by simp [lvs]
/-- the leaves are nodes -/
def LvIn (N : Nat) (cs : List CT) : Prop := ∀ c ∈ cs, NodesIn N c.1.2.2 ∧ c.1.2.2.length ≤ 6
theorem CutsIn.at_ {w : World} {A : Option Addr} {c : Nat} {cs : List CT} (h : CutsIn w A c cs) {k : Nat} (hk : k < cs.length) :
    ∃ a, A = some a ∧ a.block < w.heap.size ∧ w.cell? (a.add (k * 2)) = some (slv cs[k].1) ∧ w.cell? ⟨(a.add (k * 2)).block, (a.add (k * 2)).off + 1, none⟩ = some (.int .u64 (cs[k].2 : Int)) ∧ SLIn w cs[k].1 := by
  obtain ⟨h0, h1⟩ := cutC_get cs k hk
  obtain ⟨a, e, hb, g0, g1⟩ := h.row.two h0 h1
  exact ⟨a, e, hb, g0, g1, h.all _ (List.getElem_mem hk)⟩
/-- leaves in a row of the call's own -/
def OwnL (base : Nat) (w : World) (l : SL) : Prop := w.ownsRow base 3 1 (slv l) l.2.2.length (ints l.2.2)
theorem OwnL.later {base : Nat} {w w' : World} {l : SL} (h : OwnL base w l) (hb : Below w.heap.size w w') : OwnL base w' l := own_keep h hb
def GateOut (L : List (List Int)) (w : World) (r : Ending) (w' : World) : Prop :=
  ∃ A c ls, r = .returned (.slice A (ls : List SL).length c) ∧ Below w.heap.size w w' ∧ SLs w' A c ls ∧ con ls = L ∧ ∀ l ∈ ls, OwnL w.heap.size w' l
theorem SLs.pre {w : World} {A : Option Addr} {c : Nat} {ls : List SL} (h : SLs w A c ls) (k : Nat) (hk : k ≤ ls.length) : SLs w A c (ls.take k) := by
  refine ⟨?_, fun l hl => h.all l (List.mem_of_mem_take hl)⟩
  have := h.row.pre hk
  rw [Nat.mul_one] at this
  simpa [List.length_take, Nat.min_eq_left hk, List.map_take] using this
set_option maxRecDepth 100000 in
set_option maxHeartbeats 4000000 in
theorem rgate_any (D A B : Option Addr) (cd ca cb N : Nat) (d : List Int) (xs ys : List CT) (k : Int) (w : World) (hd : DepIn w D cd N d) (ha : CutsIn w A ca xs) (hb : CutsIn w B cb ys) (hla : LvIn N xs) (hlb : LvIn N ys) (hna : xs.length ≤ 50) (hnb : ys.length ≤ 50) :
    Calls Tryz.prog 50 #[.slice D N cd, .slice A xs.length ca, .slice B ys.length cb, .int .i64 k] w (GateOut (Cut.gate d (lvs xs) (lvs ys) k) w) := by
  have HMG := Lib.hid (fun (W : World) (hB : Below w.heap.size w W) (i j : Nat) (hi : i < xs.length) (hj : j < ys.length) => rmerge_any xs[i].1.1 ys[j].1.1 xs[i].1.2.1 ys[j].1.2.1 xs[i].1.2.2 ys[j].1.2.2 k W (Rd.later (ha.all _ (List.getElem_mem hi)) hB) (Rd.later (hb.all _ (List.getElem_mem hj)) hB) (by have := (hla _ (List.getElem_mem hi)).2; omega) (by have := (hlb _ (List.getElem_mem hj)).2; omega))
  have HPU := Lib.hid (fun (W : World) (hB : Below w.heap.size w W) (A' : Option Addr) (c' : Nat) (ls : List SL) (x : SL) (h1 : SLs W A' c' ls) (h2 : SLIn W x) (h3 : ∀ l ∈ ls, NodesIn N l.2.2 ∧ l.2.2.length ≤ 6) (h4 : NodesIn N x.2.2 ∧ x.2.2.length ≤ 6) (h5 : ls.length ≤ 10000) => put_any D A' cd c' N d ls x W (hd.later hB) h1 h2 h3 h4 h5)
  have HA := Lib.hid ha
  have HB := Lib.hid hb
  have HLA := Lib.hid hla
  have HLB := Lib.hid hlb
  obtain ⟨n, hn⟩ : ∃ n, xs.length = n := ⟨_, rfl⟩
  obtain ⟨m, hm⟩ : ∃ n, ys.length = n := ⟨_, rfl⟩
  have HN := Lib.hid hn
  have HM := Lib.hid hm
  rw [hn] at hna ⊢
  rw [hm] at hnb ⊢
  have hGN : ∀ (i j : Nat) (hi : i < xs.length) (hj : j < ys.length), Cut.gateTo d (lvs xs) (lvs ys) k (i * m + j + 1) = Cut.putM d k (Cut.gateTo d (lvs xs) (lvs ys) k (i * m + j)) (xs[i].1.2.2, ys[j].1.2.2) := fun i j hi hj => by
    have h := Cut.gateTo_next (d := d) (k := k) (a := lvs xs) (b := lvs ys) (i := i) (j := j) (by rw [lvs_length]; exact hi) (by rw [lvs_length]; exact hj)
    simp only [lvs_length, hm, lvs_at hi, lvs_at hj] at h
    exact h
  have HGN := Lib.hid hGN
  have hall : Cut.gateTo d (lvs xs) (lvs ys) k (n * m) = Cut.gateAll d (lvs xs) (lvs ys) k := by
    have h := Cut.gateTo_all d (lvs xs) (lvs ys) k
    rw [lvs_length, lvs_length, hn, hm] at h; exact h
  have HALL := Lib.hid hall
  clear hd ha hb hla hlb hn hm hGN hall
  go_enter Tryz.func50, Tryz.ntmps50
  go_wp2_with fail
  go_loopw [9, 10] (fun v9 v10 wx => ∃ (i : Nat) (AL : Option Addr) (cL : Nat) (ls : List SL), i ≤ n ∧ v10 = .int .i64 (i : Int) ∧ v9 = .slice AL ls.length cL ∧ con ls = Cut.gateTo d (lvs xs) (lvs ys) k (i * m) ∧ ls.length ≤ i * m ∧ SLs wx AL cL ls ∧ (∀ l ∈ ls, (NodesIn N l.2.2 ∧ l.2.2.length ≤ 6) ∧ OwnL w.heap.size wx l) ∧ Below w.heap.size w wx) (fun _ v10 _ => n - (intOf v10).toNat)
  case atStart => exact ⟨0, none, 0, [], by omega, rfl, rfl, by rw [Nat.zero_mul]; rfl, by simp, ⟨Rd.none0 _ _ _ _ (fun _ => rfl), fun l hl => by cases hl⟩, fun l hl => (by cases hl), Below.refl _ _⟩
  case round =>
    obtain ⟨i, AL, cL, ls, hi, rfl, rfl, hcon, hlen, hSL, hnod, hB⟩ := hrel
    have HCON := Lib.hid hcon
    have HS := Lib.hid hSL
    have HNO := Lib.hid hnod
    have B1 := Lib.hid hB
    clear hcon hSL hnod hB
    by_cases hin : i < n
    case neg =>
      obtain rfl : i = n := by omega
      have hres : con (ls.take 8) = Cut.gate d (lvs xs) (lvs ys) k := by
        unfold Cut.gate
        rw [← HALL.out, ← HCON.out]; simp [con, List.map_take]
      have HRES := Lib.hid hres
      have hcc := HS.out.row.cap
      have hln : (min (ls.length : Int) 8).toNat = (ls.take 8).length := by rw [List.length_take]; omega
      have HLN := Lib.hid hln
      clear hres hln
      go_wp2_with fail
      go_ret
      refine ⟨AL, cL, ls.take 8, ?_, B1.out, ?_, HRES.out, fun l hl => (HNO.out l (List.mem_of_mem_take hl)).2⟩
      · rw [← HLN.out]; rfl
      · rcases Nat.le_total ls.length 8 with h8 | h8
        · rw [List.take_of_length_le h8]; exact HS.out
        · exact HS.out.pre 8 h8
    have hin' : (i : Int) < (n : Int) := by omega
    go_wp2_with fail
    go_loopw [9, 11] (fun v9 v11 wx => ∃ (j : Nat) (AL : Option Addr) (cL : Nat) (ls : List SL), j ≤ m ∧ v11 = .int .i64 (j : Int) ∧ v9 = .slice AL ls.length cL ∧ con ls = Cut.gateTo d (lvs xs) (lvs ys) k (i * m + j) ∧ ls.length ≤ i * m + j ∧ SLs wx AL cL ls ∧ (∀ l ∈ ls, (NodesIn N l.2.2 ∧ l.2.2.length ≤ 6) ∧ OwnL w.heap.size wx l) ∧ Below w.heap.size w wx) (fun _ v11 _ => m - (intOf v11).toNat)
    case atStart => exact ⟨0, AL, cL, ls, by omega, rfl, rfl, HCON.out, hlen, HS.out, HNO.out, B1.out⟩
    case round =>
      clear HCON HS HNO B1 hlen
      obtain ⟨j, AM, cM, ms, hj, rfl, rfl, hcon, hlen, hSL, hnod, hB⟩ := hrel
      have HCON := Lib.hid hcon
      have HS := Lib.hid hSL
      have HNO := Lib.hid hnod
      have B1 := Lib.hid hB
      have him : i * m ≤ 2500 := Nat.le_trans (Nat.mul_le_mul (by omega : i ≤ 50) hnb) (by omega)
      clear hcon hSL hnod hB
      by_cases hjm : j < m
      case neg =>
        obtain rfl : j = m := by omega
        have HCO2 := Lib.hid (show con ms = Cut.gateTo d (lvs xs) (lvs ys) k ((i + 1) * j) by rw [Nat.add_mul, Nat.one_mul]; exact HCON.out)
        have hlen2 : ms.length ≤ (i + 1) * j := by rw [Nat.add_mul, Nat.one_mul]; exact hlen
        clear HCON
        go_wp2_with fail
        go_roundw
        case rel => exact ⟨i + 1, AM, cM, ms, by omega, by go_num, rfl, HCO2.out, hlen2, HS.out, HNO.out, B1.out⟩
        case measure => simp [intOf]; omega
      have hjm' : (j : Int) < (m : Int) := by omega
      have hix : i < xs.length := by rw [HN.out]; exact hin
      have hjy : j < ys.length := by rw [HM.out]; exact hjm
      obtain ⟨a, hA, hab, d0, -, -⟩ := HA.out.at_ hix
      obtain ⟨b, hBB, hbb, e0, -, -⟩ := HB.out.at_ hjy
      subst hA
      subst hBB
      have d1 := (B1.out.cell (p := a.add (i * 2)) (by rw [add_block]; exact hab)).trans d0
      have e1 := (B1.out.cell (p := b.add (j * 2)) (by rw [add_block]; exact hbb)).trans e0
      have HM1 := Lib.hid (fun (W : World) (hB : Below wr.heap.size wr W) => HMG.out W (below_then B1.out hB) i j hix hjy)
      have HG1 := Lib.hid (HGN.out i j hix hjy)
      have HL1 := Lib.hid (HLA.out _ (List.getElem_mem hix))
      have HL2 := Lib.hid (HLB.out _ (List.getElem_mem hjy))
      clear d0 e0
      generalize xs[i] = x at d1 HM1 HG1 HL1
      generalize ys[j] = y at e1 HM1 HG1 HL2
      obtain ⟨⟨x1, x2, x3⟩, xt⟩ := x
      obtain ⟨⟨y1, y2, y3⟩, yt⟩ := y
      simp only [slv] at d1 e1 HM1 HG1 HL1 HL2
      go_wp2_with fail
      have hba : (a.add (i * 2)).block < wr.heap.size := by rw [add_block]; exact Nat.lt_of_lt_of_le hab B1.out.size
      have hbb2 : (b.add (j * 2)).block < wr.heap.size := by rw [add_block]; exact Nat.lt_of_lt_of_le hbb B1.out.size
      go_region_held3 (fun w' => w'.cell? (a.add (i * 2)) = some (.slice x1 x3.length x2) ∧ w'.cell? (b.add (j * 2)) = some (.slice y1 y3.length y2)) (go_keep) ((go_at_call 66; (with_reducible refine (HM1.out _ (Below.refl _ _).drew).mono ?_); rintro e w9 ⟨A9, c9, rfl, hb9, ho9⟩; have hb9 := below_of_drew hb9; have f1 := (hb9.cell hba).trans d1; have f2 := (hb9.cell hbb2).trans e1))
      have hb99 : Below wr.heap.size wr w9 := hb9
      have B9 := Lib.hid (below_then B1.out hb99)
      have R9 := Lib.hid (own_down ho9 (base' := w.heap.size) B1.out.size)
      have N9 := Lib.hid (show ∀ l ∈ ms, (NodesIn N l.2.2 ∧ l.2.2.length ≤ 6) ∧ OwnL w.heap.size w9 l from fun l hl => ⟨(HNO.out l hl).1, (HNO.out l hl).2.later hb99⟩)
      have S9 := Lib.hid (HS.out.later hb99)
      clear ho9 f1 f2 hb99 hb9 d1 e1 hba hbb2 HM1 hab hbb
      have hme := fun z (h : Cut.merge x3 y3 k = some z) => Cut.merge_mem h
      have HME := Lib.hid hme
      clear hme
      obtain ⟨o, ho⟩ : ∃ o, Cut.merge x3 y3 k = o := ⟨_, rfl⟩
      rw [ho] at HME
      simp only [Cut.putM, ho] at HG1
      rw [ho] at R9
      rw [ho]
      cases o with
      | none =>
        simp only [Option.getD_none, Option.isSome_none, List.length_nil]
        go_wp2_with fail
        go_roundw
        case rel => exact ⟨j + 1, AM, cM, ms, by omega, by go_num, rfl, HCON.out.trans HG1.out.symm, by omega, S9.out, N9.out, B9.out⟩
        case measure => simp [intOf]; omega
      | some z =>
        simp only [Option.getD_some, Option.isSome_some]
        obtain ⟨-, -, hz1, hz2, hz3⟩ := HME.out z rfl
        have hzn : NodesIn N z ∧ z.length ≤ 6 := ⟨fun t ht => by rcases hz3 t ht with h | h; exact HL1.out.1 t h; exact HL2.out.1 t h, by omega⟩
        have HZN := Lib.hid hzn
        have hpu := HPU.out w9 B9.out AM cM ms (A9, c9, z) S9.out (Rd.of_own R9.out) (fun l hl => (N9.out l hl).1) hzn (by omega)
        simp only at hpu
        unfold PutOut at hpu
        have HP := Lib.hid hpu
        clear hpu hz1 hz2 hz3 hzn
        go_wp2_with fail
        refine HP.out.mono ?_
        rintro e w7 ⟨A7, c7, ls7, rfl, hb7, hs7, hc7, hm7⟩
        have B7 := Lib.hid (below_then B9.out hb7)
        have S7 := Lib.hid hs7
        have C7 := Lib.hid ((hc7.trans (by rw [HCON.out])).trans HG1.out.symm)
        have hl7 : ls7.length ≤ i * m + (j + 1) := by
          have h1 := congrArg List.length (show con ls7 = Cut.put d (con ms) z from hc7)
          have h2 := Cut.put_len d (con ms) z
          rw [con_length] at h1 h2
          omega
        have N7 := Lib.hid (show ∀ l ∈ ls7, (NodesIn N l.2.2 ∧ l.2.2.length ≤ 6) ∧ OwnL w.heap.size w7 l from fun l hl => by
          rcases hm7 l hl with h2 | h2
          · exact ⟨(N9.out l h2).1, (N9.out l h2).2.later hb7⟩
          · subst h2
            exact ⟨HZN.out, OwnL.later (l := (A9, c9, z)) R9.out hb7⟩)
        clear hb7 hs7 hc7 hm7
        go_wp2_with fail
        go_roundw
        case rel => exact ⟨j + 1, A7, c7, ls7, by omega, by go_num, rfl, C7.out, hl7, S7.out, N7.out, B7.out⟩
        case measure => simp [intOf]; omega
end Go.Proofs.YtaajnmggbhnndaaGreatDoor
