/- cuts.Merge. -/
import Derived.Test.YtkhlllbceceikaaDoorCpt
import Derived.Test.YtkhlllbceceikaaDoorRMrg
import Derived.Sort.OwnSortedInts
import Derived.Test.YtkhlllbceceikaaDoorShelf
namespace Go.Proofs.YtkhlllbceceikaaDoor
open Go.RowKit Go.Sort
set_option linter.unusedVariables false
set_option linter.unusedSimpArgs false

/-- a list of ints in order -/
def srt (L : List Int) : List Int := L.mergeSort fun x y => decide (x ≤ y)
theorem srt_len (L : List Int) : (srt L).length = L.length := List.length_mergeSort L
theorem srt_mem (L : List Int) (x : Int) : x ∈ srt L ↔ x ∈ L := by unfold srt; exact List.mem_mergeSort
theorem srt_pair (L : List Int) : (srt L).Pairwise (· ≤ ·) := by
  have h := List.pairwise_mergeSort (le := fun (x y : Int) => decide (x ≤ y)) (fun a b c h1 h2 => by simp at *; omega) (fun a b => by simp; omega) L
  exact h.imp (fun h => by simpa using h)
theorem pair_at {l : List Int} {r : Int → Int → Prop} (h : l.Pairwise r) {i j : Nat} (hij : i < j) (hj : j < l.length) : r (l.getD i 0) (l.getD j 0) := by
  have := List.pairwise_iff_getElem.1 h i j (by omega) hj hij
  rw [List.getD_eq_getElem?_getD, List.getD_eq_getElem?_getD, List.getElem?_eq_getElem (show i < l.length by omega), List.getElem?_eq_getElem hj]
  exact this
theorem cpt_srt_rises (L : List Int) : Cut.Rises (cpt id (srt L)) := by
  unfold cpt Cut.Rises
  refine (cptTo_rise (f := (id : Int → Int)) (L := srt L) (· < ·) (fun a b c h1 h2 => Int.lt_trans h1 h2) (fun i j hij hj => ?_) (srt L).length (Nat.le_refl _))
  have := pair_at (srt_pair L) hij hj
  simp only [id]
  rcases Int.lt_or_eq_of_le this with h | h
  · exact .inl h
  · exact .inr h
theorem cpt_mem_int (L : List Int) (x : Int) : x ∈ cpt id L ↔ x ∈ L := by
  constructor
  · intro h
    have := cptTo_mem (f := (id : Int → Int)) (L := L) L.length (Nat.le_refl _) x h
    rwa [List.take_length] at this
  · intro h
    obtain ⟨y, hy, e⟩ := cptTo_key (f := (id : Int → Int)) (L := L) L.length (Nat.le_refl _) x (by rwa [List.take_length])
    rwa [← show y = x from e]
/-- what Sort and Compact make of both lists -/
theorem cpt_srt {a b : List Int} (ha : Cut.Rises a) (hb : Cut.Rises b) : cpt id (srt (a ++ b)) = Cut.mrg a b :=
  Cut.rises_uniq (cpt_srt_rises _) (Cut.mrg_rises a b ha hb) (fun x => by rw [cpt_mem_int, srt_mem, Cut.mem_mrg, List.mem_append])
theorem sort_any (w : World) (base : Nat) (A : Option Addr) (n c : Nat) (L : List Int) (ho : w.ownsRow base 3 1 (.slice A n c) n (ints L)) (hb : base ≤ w.heap.size) (hn : n ≤ 100000000) :
    Calls Tryd.prog 40 #[.slice A n c] w fun e w' => e = .returned (.tuple #[]) ∧ w'.ownsRow base 3 1 (.slice A n c) n (ints (srt L)) ∧ Below base w w' := by
  have hl : L.length = n := by have := ho.1; rw [ints_length] at this; omega
  rcases Nat.eq_zero_or_pos n with h0 | h0
  · subst h0
    obtain rfl : L = [] := List.eq_nil_of_length_eq_zero hl
    have h := AnyM.slices_Sort_int_none Tryd.sortInt A c w
    change Calls Tryd.prog 40 _ _ _ at h
    refine h.mono ?_
    rintro e w' ⟨rfl, rfl⟩
    exact ⟨rfl, by simpa [srt] using ho, Below.refl _ _⟩
  · rcases ho.2 with ⟨hv, hz⟩ | ⟨g, cap, cur, hv, hg, hh, hc, hm, hs, ht⟩
    · omega
    · injection hv with h1 h2 h3
      subst h1 h3
      have hlt := lt_of_block hh
      have hH : Holds (Value.int .i64) w g 0 L.toArray := holds_of_blockI hh (by rw [hl]; simpa [ints] using ht)
      have h := AnyM.slices_Sort_int Tryd.sortInt g 0 c L w hH hlt (by omega)
      change Calls Tryd.prog 40 _ _ _ at h
      rw [hl] at h
      refine h.mono ?_
      rintro e w' ⟨rfl, k, os, rfl⟩
      refine ⟨rfl, ?_, ?_⟩
      · have := ownsRow_sortedI (os := os) (n := k) (ts := srt L) (ss := L) (srt_len L) hg hh (by omega) hm hs
        rw [hl] at this
        exact this
      · exact (Below.refl _ _).grown (grownBy_sortedI _) hb (fun j hj => by cases hj; exact hg)
set_option maxRecDepth 100000 in
set_option maxHeartbeats 4000000 in
theorem cmerge_any (A B : Option Addr) (c d : Nat) (a b : List Int) (k : Int) (w : World) (ha : Rd w 1 A a.length c (ints a)) (hb : Rd w 1 B b.length d (ints b)) (hna : a.length ≤ 400000) (hnb : b.length ≤ 400000) :
    Calls Tryd.prog 15 #[.slice A a.length c, .slice B b.length d, .int .i64 k] w (MrgOut (Cut.merge a b k) w) := by
  have HRA := Lib.hid (fun (W : World) (hB : Below w.heap.size w W) => crises_any A c a W (ha.later hB) (by omega))
  have HRB := Lib.hid (fun (W : World) (hB : Below w.heap.size w W) => crises_any B d b W (hb.later hB) (by omega))
  have HA := Lib.hid ha
  have HB := Lib.hid hb
  obtain ⟨n, hn⟩ : ∃ n, a.length = n := ⟨_, rfl⟩
  obtain ⟨m, hm⟩ : ∃ n, b.length = n := ⟨_, rfl⟩
  have HN := Lib.hid hn
  have HM := Lib.hid hm
  rw [hn] at HA HRA hna ⊢
  rw [hm] at HB HRB hnb ⊢
  clear ha hb hn hm
  obtain ⟨o, ho⟩ : ∃ o, Cut.merge a b k = o := ⟨_, rfl⟩
  have HOO := Lib.hid ho
  rw [ho]
  clear ho
  by_cases hk0 : k < 0
  · have hoo := Lib.hid (show o = none by rw [← HOO.out]; exact merge_none (fun h => by omega))
    go_enter Tryd.func15, Tryd.ntmps15
    go_wp2_with fail
    go_ret2
    rw [hoo.out]
    exact .none (Below.refl _ _)
  by_cases hk6 : 6 < k
  · have hoo := Lib.hid (show o = none by rw [← HOO.out]; exact merge_none (fun h => by omega))
    go_enter Tryd.func15, Tryd.ntmps15
    go_wp2_with fail
    go_ret2
    rw [hoo.out]
    exact .none (Below.refl _ _)
  by_cases h1 : Cut.Rises a
  case neg =>
    have hoo := Lib.hid (show o = none by rw [← HOO.out]; exact merge_none (fun h => h1 h.1))
    have e1 : decide (Cut.Rises a) = false := decide_eq_false h1
    rw [e1] at HRA
    clear h1 e1
    go_enter Tryd.func15, Tryd.ntmps15
    go_wp2_with fail
    refine (HRA.out _ (Below.refl _ _)).mono ?_
    rintro e w1 ⟨rfl, hb1⟩
    have B1 := Lib.hid hb1
    clear hb1
    go_wp2_with fail
    go_ret2
    rw [hoo.out]
    exact .none B1.out
  have e1 : decide (Cut.Rises a) = true := decide_eq_true h1
  rw [e1] at HRA
  by_cases h2 : Cut.Rises b
  case neg =>
    have hoo := Lib.hid (show o = none by rw [← HOO.out]; exact merge_none (fun h => h2 h.2.1))
    have e2 : decide (Cut.Rises b) = false := decide_eq_false h2
    rw [e2] at HRB
    clear h1 e1 h2 e2
    go_enter Tryd.func15, Tryd.ntmps15
    go_wp2_with fail
    refine (HRA.out _ (Below.refl _ _)).mono ?_
    rintro e w1 ⟨rfl, hb1⟩
    have B1 := Lib.hid hb1
    clear hb1
    go_wp2_with fail
    refine (HRB.out _ B1.out).mono ?_
    rintro e w2 ⟨rfl, hb2⟩
    have B2 := Lib.hid (below_then B1.out hb2)
    clear hb2
    go_wp2_with fail
    go_ret2
    rw [hoo.out]
    exact .none B2.out
  have e2 : decide (Cut.Rises b) = true := decide_eq_true h2
  rw [e2] at HRB
  have HML := Lib.hid (Cut.mrg_len a b)
  have HC := Lib.hid (cpt_srt h1 h2)
  have H12 := Lib.hid (And.intro h1 h2)
  clear h1 e1 h2 e2
  by_cases hkn : k < (n : Int)
  · have hoo := Lib.hid (show o = none by rw [← HOO.out]; exact merge_none (fun h => by have := h.2.2.2.2; have := HML.out.1; rw [HN.out] at this; omega))
    go_enter Tryd.func15, Tryd.ntmps15
    go_wp2_with fail
    refine (HRA.out _ (Below.refl _ _)).mono ?_
    rintro e w1 ⟨rfl, hb1⟩
    have B1 := Lib.hid hb1
    clear hb1
    go_wp2_with fail
    refine (HRB.out _ B1.out).mono ?_
    rintro e w2 ⟨rfl, hb2⟩
    have B2 := Lib.hid (below_then B1.out hb2)
    clear hb2
    go_wp2_with fail
    go_ret2
    rw [hoo.out]
    exact .none B2.out
  by_cases hkm : k < (m : Int)
  · have hoo := Lib.hid (show o = none by rw [← HOO.out]; exact merge_none (fun h => by have := h.2.2.2.2; have := HML.out.2.1; rw [HM.out] at this; omega))
    go_enter Tryd.func15, Tryd.ntmps15
    go_wp2_with fail
    refine (HRA.out _ (Below.refl _ _)).mono ?_
    rintro e w1 ⟨rfl, hb1⟩
    have B1 := Lib.hid hb1
    clear hb1
    go_wp2_with fail
    refine (HRB.out _ B1.out).mono ?_
    rintro e w2 ⟨rfl, hb2⟩
    have B2 := Lib.hid (below_then B1.out hb2)
    clear hb2
    go_wp2_with fail
    go_ret2
    rw [hoo.out]
    exact .none B2.out
  have hnm : n ≤ 6 ∧ m ≤ 6 := by omega
  obtain ⟨hn6, hm6⟩ := hnm
  -- both lists in a row
  have hcat : cat [((A, c, a) : SL), (B, d, b)] = a ++ b := by simp [cat]
  have HCC := Lib.hid (fun (W : World) (hB : Below w.heap.size w W) => by
    have h := concat_any (W.alloc (.cells #[slv (A, c, a), slv (B, d, b)] 24)) (some ⟨W.heap.size, 0, none⟩) 2 2 [((A, c, a) : SL), (B, d, b)] rfl (rd_new W 24 [slv (A, c, a), slv (B, d, b)]) (fun l hl => by
      rcases List.mem_cons.1 hl with e | hl
      · subst e; exact (by rw [HN.out]; exact HA.out : Rd w 1 A a.length c (ints a)).later (below_then hB (below_new _ _))
      · rw [List.mem_singleton] at hl
        subst hl; exact (by rw [HM.out]; exact HB.out : Rd w 1 B b.length d (ints b)).later (below_then hB (below_new _ _))) (by omega) (by rw [hcat, List.length_append, HN.out, HM.out]; omega)
    rw [hcat] at h
    exact h)
  have hab : (a ++ b).length = n + m := by rw [List.length_append, HN.out, HM.out]
  rw [hab] at HCC
  simp only [slv, HN.out, HM.out] at HCC
  clear hcat
  go_enter Tryd.func15, Tryd.ntmps15
  go_wp2_with fail
  refine (HRA.out _ (Below.refl _ _)).mono ?_
  rintro e w1 ⟨rfl, hb1⟩
  have B1 := Lib.hid hb1
  clear hb1
  go_wp2_with fail
  refine (HRB.out _ B1.out).mono ?_
  rintro e w2 ⟨rfl, hb2⟩
  have B2 := Lib.hid (below_then B1.out hb2)
  clear hb2 B1 HRA HRB
  go_wp2_with fail
  refine (HCC.out _ B2.out).mono ?_
  rintro e w3 ⟨A3, c3, rfl, hb3, hown3⟩
  have B3 := Lib.hid (below_then (below_then B2.out (below_new _ _)) hb3)
  have O3 := Lib.hid (own_down hown3 (base' := w.heap.size) (Nat.le_trans B2.out.size (by simp)))
  clear hb3 hown3 HCC
  go_wp2_with fail
  refine (sort_any w3 w.heap.size A3 (n + m) c3 (a ++ b) O3.out B3.out.size (by omega)).mono ?_
  rintro e w4 ⟨rfl, hown4, hb4⟩
  have O4 := Lib.hid hown4
  have B4 := Lib.hid ((show Below w.heap.size w w4 from ⟨hb4.os.trans B3.out.os, hb4.tape.trans B3.out.tape, hb4.output.trans B3.out.output, Nat.le_trans B3.out.size hb4.size, fun i hi => (hb4.block i hi).trans (B3.out.block i hi)⟩))
  clear hown4 hb4 O3 B3
  go_wp2_with fail
  have hco := compact_any w4 w.heap.size A3 (n + m) c3 (srt (a ++ b)) O4.out B4.out.size (by omega)
  unfold CptOut at hco
  rw [HC.out] at hco
  refine hco.mono ?_
  rintro e w5 ⟨rfl, hown5, hb5⟩
  have O5 := Lib.hid hown5
  have B5 := Lib.hid ((show Below w.heap.size w w5 from ⟨hb5.os.trans B4.out.os, hb5.tape.trans B4.out.tape, hb5.output.trans B4.out.output, Nat.le_trans B4.out.size hb5.size, fun i hi => (hb5.block i hi).trans (B4.out.block i hi)⟩))
  clear hown5 hb5 O4 B4 hco
  by_cases hlen : k < ((Cut.mrg a b).length : Int)
  · have hoo := Lib.hid (show o = none by rw [← HOO.out]; exact merge_none (fun h => by have := h.2.2.2.2; omega))
    go_wp2_with fail
    go_ret2
    rw [hoo.out]
    exact .none B5.out
  · have hoo := Lib.hid (show o = some (Cut.mrg a b) by rw [← HOO.out]; exact merge_some ⟨H12.out.1, H12.out.2, by omega, by omega, by omega⟩)
    go_wp2_with fail
    go_ret2
    rw [hoo.out]
    exact .some B5.out O5.out
end Go.Proofs.YtkhlllbceceikaaDoor
