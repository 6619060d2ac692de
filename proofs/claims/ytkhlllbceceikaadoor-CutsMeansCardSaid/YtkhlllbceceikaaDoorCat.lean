/- slices.Grow, slices.Concat at []int. -/
import Derived.Test.YtkhlllbceceikaaDoorMem
import Derived.Lib.AppendZerosOnto
import Derived.Lib.Walk
import Derived.Lib.SliceRun
namespace Go.Proofs.YtkhlllbceceikaaDoor
open Go.RowKit
set_option linter.unusedVariables false
set_option linter.unusedSimpArgs false

set_option maxRecDepth 100000 in
set_option maxHeartbeats 1000000 in
theorem grow_none (w : World) : Calls Tryd.prog 56 #[.slice none 0 0, .int .i64 0] w fun e w' => e = .returned (.slice none 0 0) ∧ w = w' := by
  go_enter Tryd.func56, Tryd.ntmps56
  go_wp2_with fail
  go_ret
  exact ⟨rfl, rfl⟩
set_option maxRecDepth 100000 in
set_option maxHeartbeats 1000000 in
theorem grow_some (n : Nat) (w : World) (h0 : 0 < n) (hn : n ≤ 100000000) :
    Calls Tryd.prog 56 #[.slice none 0 0, .int .i64 (n : Int)] w fun e w' => ∃ A c, e = .returned (.slice A 0 c) ∧ Below w.heap.size w w' ∧ w'.ownsRow w.heap.size 3 1 (.slice A 0 c) 0 [] := by
  obtain ⟨i0, hi0, hz0, hz1, hz2⟩ := info_parts int_info
  have hold : (Builtin.firstCells i0.size 0 (.slice none 0 0)).run Tryd.prog w.drew = .ok ([] : List Value).toArray w.drew := run_firstCells_none w.drew i0.size 0 0 0
  have hrz : ∀ ty, (Builtin.append_ #[24, 3] ty #[.slice none 0 0, .int .i64 (n : Int)]).run Tryd.prog w =
      .ok (.slice (some ⟨w.heap.size, 0, none⟩) (0 + n) (grownCap w (0 + n) 0 3)) (w.drew.alloc (.cells (([] : List Value).toArray ++ Builtin.zeroCells (Value.int .i64 0).cells n ++ Builtin.zeroCells (Value.int .i64 0).cells (grownCap w (0 + n) 0 3 - (0 + n))) 3)) := fun ty =>
    Lib.run_append_grow_zeros w 24 3 ty 3 i0 (.int .i64 0) .i64 .i64 Tryd.underlying24 Tryd.underlying3 hi0 hz0 none 0 0 [] hold n h0 (by omega) (by omega) (by omega) (by rw [hz2]; omega) (growslice_fits (by omega) (by rw [hz2]; omega))
  rw [Nat.zero_add] at hrz
  have hG := grownCap_ge w n 0 3
  have hG2 := grownCap_le_maxLen w n 0 3 (by unfold maxLen; omega)
  generalize grownCap w n 0 3 = G at hrz hG hG2
  have hsz : (([] : List Value).toArray ++ Builtin.zeroCells (Value.int .i64 0).cells n ++ Builtin.zeroCells (Value.int .i64 0).cells (G - n)).size = G * 1 := by
    simp [Builtin.zeroCells, Value.cells]
    omega
  generalize ([] : List Value).toArray ++ Builtin.zeroCells (Value.int .i64 0).cells n ++ Builtin.zeroCells (Value.int .i64 0).cells (G - n) = cs at hrz hsz
  have HR := Lib.hid hrz
  have HS := Lib.hid hsz
  have HG2 := Lib.hid hG2
  have h63 : G ≤ 9223372036854775807 := by unfold maxLen at hG2; omega
  clear hrz hsz hold hi0 hz0 hz1 hz2 hG2
  go_enter Tryd.func56, Tryd.ntmps56
  go_wp2_with (at_builtin; refine Lib.wpList_append_run _ rfl _ _ _ _ rfl _ _ rfl rfl _ _ (HR.out _) ?_)
  go_ret
  refine ⟨some ⟨w.heap.size, 0, none⟩, G, rfl, ?_, ?_⟩
  · exact (Below.refl _ _).drew.alloc (Nat.le_refl _) _
  · exact World.ownsRow_made w.drew cs G (Nat.le_refl _) HG2.out HS.out
/-- a list of slices: address, capacity, what it reads as -/
abbrev SL : Type := Option Addr × Nat × List Int
def slv (l : SL) : Value := .slice l.1 l.2.2.length l.2.1
def cat (ls : List SL) : List Int := ls.flatMap fun l => l.2.2
theorem cat_take (ls : List SL) (k : Nat) (h : k < ls.length) : cat (ls.take (k + 1)) = cat (ls.take k) ++ (ls[k]).2.2 := by
  unfold cat
  rw [List.take_succ_eq_append_getElem h, List.flatMap_append]
  simp only [List.flatMap_cons, List.flatMap_nil, List.append_nil]
theorem cat_take_le (ls : List SL) (k : Nat) : (cat (ls.take k)).length ≤ (cat ls).length := by
  have : cat ls = cat (ls.take k) ++ cat (ls.drop k) := by
    unfold cat
    rw [← List.flatMap_append, List.take_append_drop]
  rw [this, List.length_append]
  omega
set_option maxRecDepth 100000 in
set_option maxHeartbeats 2000000 in
theorem concat_any (w : World) (A0 : Option Addr) (c0 m : Nat) (ls : List SL) (hm : ls.length = m) (hO : Rd w 1 A0 m c0 (ls.map slv)) (hI : ∀ l ∈ ls, Rd w 1 l.1 l.2.2.length l.2.1 (ints l.2.2)) (hm1 : m ≤ 100000000) (hs : (cat ls).length ≤ 100000000) :
    Calls Tryd.prog 39 #[.slice A0 m c0] w fun e w' => ∃ A c, e = .returned (.slice A (cat ls).length c) ∧ Below w.heap.size w w' ∧ w'.ownsRow w.heap.size 3 1 (.slice A (cat ls).length c) (cat ls).length (ints (cat ls)) := by
  have HM := Lib.hid hm
  clear hm
  go_enter Tryd.func39, Tryd.ntmps39
  go_wp2_with fail
  go_loop [3, 11] (fun t i => ∃ k : Nat, k ≤ m ∧ i = .int .i64 (k : Int) ∧ t = .int .i64 ((cat (ls.take k)).length : Int)) (fun _ i => m - (intOf i).toNat)
  case atStart => exact ⟨0, by omega, rfl, by simp [cat]⟩
  case round =>
    obtain ⟨k, hk, rfl, rfl⟩ := hrel
    have h1 := cat_take_le ls k
    by_cases hlt : k < m
    · have hk' : k < ls.length := by rw [HM.out]; exact hlt
      have h2 := cat_take_le ls (k + 1)
      have h3 := cat_take ls k hk'
      have h4 : (cat (ls.take (k + 1))).length = (cat (ls.take k)).length + (ls[k]).2.2.length := by rw [h3, List.length_append]
      have h5 : (cat (ls.take k)).length + (ls[k]).2.2.length ≤ 100000000 := by omega
      have H4 := Lib.hid h4
      obtain ⟨a, rfl, hb, hc⟩ := hO.at1 hlt
      have e : (ls.map slv).getD k undef = .slice (ls[k]).1 (ls[k]).2.2.length (ls[k]).2.1 := by
        rw [List.getD_eq_getElem?_getD, List.getElem?_map, List.getElem?_eq_getElem hk']; rfl
      rw [e] at hc
      clear h3 h4 h2 e
      generalize ls[k] = l at hc H4 h5
      obtain ⟨l1, l2, l3⟩ := l
      simp only at hc H4 h5
      go_wp2_with fail
      go_round
      case rel => exact ⟨k + 1, by omega, by go_num, by rw [H4.out]; go_num⟩
      case measure => simp [intOf]; omega
    · obtain rfl : k = m := by omega
      have hfull : (cat (ls.take k)).length = (cat ls).length := by rw [List.take_of_length_le (by rw [HM.out]; exact Nat.le_refl _)]
      rw [hfull]
      clear hfull h1
      have HS := Lib.hid hs
      obtain ⟨n, hn⟩ : ∃ n, (cat ls).length = n := ⟨_, rfl⟩
      have HN := Lib.hid hn
      rw [hn] at hs
      simp only [hn]
      clear hn
      have hgrow : Calls Tryd.prog 56 #[.slice none 0 0, .int .i64 (n : Int)] w fun e w' => ∃ A c, e = .returned (.slice A 0 c) ∧ Below w.heap.size w w' ∧ w'.ownsRow w.heap.size 3 1 (.slice A 0 c) 0 [] := by
        rcases Nat.eq_zero_or_pos n with h0 | h0
        · subst h0
          exact (grow_none w).mono fun e w' ⟨he, hw⟩ => ⟨none, 0, he, by rw [← hw]; exact Below.refl _ _, by rw [← hw]; exact World.ownsRow_nil _ _ _ _⟩
        · exact grow_some n w h0 hs
      have HG := Lib.hid hgrow
      clear hgrow
      go_wp2_with fail
      refine (HG.out).mono ?_
      rintro e w1 ⟨A1, c1, rfl, hb1, hown1⟩
      obtain ⟨i0, hi0, hz0, hz1, hz2⟩ := info_parts int_info
      have HI0 := Lib.hid hi0
      have HZ0 := Lib.hid hz0
      have HZ1 := Lib.hid hz1
      have HZ2 := Lib.hid hz2
      have HO1 := Lib.hid hown1
      have HB1 := Lib.hid hb1
      clear hi0 hz0 hz1 hz2 hown1 hb1
      go_wp2_with fail
      go_loopw [6, 27] (fun v i wx => ∃ q : Nat, q ≤ k ∧ i = .int .i64 (q : Int) ∧ Below w.heap.size w wx ∧ wx.ownsRow w.heap.size 3 1 v (cat (ls.take q)).length (ints (cat (ls.take q)))) (fun _ i _ => k - (intOf i).toNat)
      case atStart => exact ⟨0, by omega, rfl, HB1.out, by simpa [cat, ints] using HO1.out⟩
      case round =>
        clear HO1 HB1
        obtain ⟨q, hq, rfl, hbr, hown⟩ := hrel
        obtain ⟨AA, c, rfl⟩ := own_slice hown
        have HB := Lib.hid hbr
        have HO := Lib.hid hown
        have hsz := hbr.size
        clear hbr hown
        by_cases hlt : q < k
        · have hk' : q < ls.length := by rw [HM.out]; exact hlt
          have h2 := cat_take_le ls (q + 1)
          have h3 := cat_take ls q hk'
          have h5 : (cat (ls.take q)).length + (ls[q]).2.2.length ≤ 100000000 := by rw [h3, List.length_append] at h2; have := HS.out; omega
          have H3 := Lib.hid h3
          have hR := Lib.hid ((hI ls[q] (List.getElem_mem hk')))
          obtain ⟨a, rfl, hb, hc⟩ := hO.at1 hlt
          have e : (ls.map slv).getD q undef = .slice (ls[q]).1 (ls[q]).2.2.length (ls[q]).2.1 := by
            rw [List.getD_eq_getElem?_getD, List.getElem?_map, List.getElem?_eq_getElem hk']; rfl
          rw [e] at hc
          have hc' := (HB.out.cell (p := a.add q) (by rw [add_block]; exact hb)).trans hc
          clear h3 h2 e hc
          generalize ls[q] = l at hc' H3 h5 hR
          obtain ⟨l1, l2, l3⟩ := l
          simp only at hc' H3 h5 hR
          generalize cat (ls.take q) = P at HO H3 h5
          cases l1 with
          | none =>
            have hl2 : l2 = 0 := hR.out.nil rfl
            have hl3 : l3.length = 0 := by have := hR.out.cap; omega
            subst hl2
            obtain rfl : l3 = [] := List.eq_nil_of_length_eq_zero hl3
            clear hl3 hR
            simp only [List.length_nil] at hc'
            go_wp2_with (at_builtin; refine wpList_append_own_none rfl (.tmp 31) (.tmp 32) 24 rfl w.heap.size 3 i0 1 Tryd.underlying24 HI0.out (.slice AA P.length c) P.length (ints P) rfl HO.out rfl ?_)
            go_wp2_with fail
            go_roundw
            case rel => exact ⟨q + 1, by omega, by go_num, HB.out, by rw [H3.out, List.append_nil]; exact HO.out⟩
            case measure => simp [intOf]; omega
          | some ad =>
            go_wp2_with (at_builtin; refine wpList_append_own _ rfl (.tmp 31) (.tmp 32) 24 rfl w.heap.size 3 i0 (.int .i64 0) 1 8 Tryd.underlying24 HI0.out HZ0.out HZ1.out HZ2.out rfl (by decide) (.slice AA P.length c) P.length (ints P) rfl HO.out ad l3.length l2 (ints l3) rfl (by rw [ints_length, Nat.mul_one]) ?c1 ?c2 ?c3 ?c4 ?c5 ?_)
            case c1 =>
              intro j u hj
              obtain ⟨b, hb1, hb2, hb3⟩ := (hR.out.later HB.out).read j u hj
              injection hb1 with hb1
              subst hb1
              exact hb3
            case c2 =>
              intro u hu
              obtain ⟨x, -, rfl⟩ := List.mem_map.1 hu
              rfl
            case c3 => unfold maxLen; omega
            case c4 => omega
            case c5 => exact hsz
            intro v' w2 hown2 hg2 hnil
            have HO2 := Lib.hid hown2
            have HB2 := Lib.hid (HB.out.grown hg2 hsz (fun k hk => own_base HO.out hk))
            clear hown2 hg2 hnil
            go_wp2_with fail
            go_roundw
            case rel => exact ⟨q + 1, by omega, by go_num, HB2.out, by rw [H3.out, List.length_append, ints_append]; exact HO2.out⟩
            case measure => simp [intOf]; omega
        · obtain rfl : q = k := by omega
          have hfull : cat (ls.take q) = cat ls := by rw [List.take_of_length_le (by rw [HM.out]; exact Nat.le_refl _)]
          have HF := Lib.hid hfull
          clear hfull
          go_wp2_with fail
          go_ret
          refine ⟨AA, c, ?_, HB.out, ?_⟩
          · rw [HF.out, HN.out]; rfl
          · have := HO.out; rw [HF.out] at this; exact this
end Go.Proofs.YtkhlllbceceikaaDoor
