/- filigreeref24.Merge. -/
import Derived.Test.YtkhlllbceceikaaDoorNest
import Derived.Test.YtkhlllbceceikaaDoorRVal
namespace Go.Proofs.YtkhlllbceceikaaDoor.Cut
set_option linter.unusedVariables false
set_option linter.unusedSimpArgs false
/-- so far as i and j they are made one -/
def MrgAt (a b out : List Int) (i j : Nat) : Prop := mrg a b = out ++ mrg (a.drop i) (b.drop j)
theorem MrgAt.start (a b : List Int) : MrgAt a b [] 0 0 := rfl
theorem drop_at {l : List Int} {i : Nat} (h : i < l.length) : l.drop i = l.getD i 0 :: l.drop (i + 1) := by
  rw [List.drop_eq_getElem_cons h]
  congr 1
  rw [List.getD_eq_getElem?_getD, List.getElem?_eq_getElem h]; rfl
theorem mrg_left (x : Int) (a : List Int) {b : List Int} (h : ∀ y b', b = y :: b' → x < y) : mrg (x :: a) b = x :: mrg a b := by
  cases b with
  | nil => simp [mrg]; cases a <;> simp [mrg]
  | cons y b => rw [mrg, if_pos (h y b rfl)]
theorem mrg_right (y : Int) (b : List Int) {a : List Int} (h : ∀ x a', a = x :: a' → y < x) : mrg a (y :: b) = y :: mrg a b := by
  cases a with
  | nil => simp [mrg]
  | cons x a => have := h x a rfl; rw [mrg, if_neg (by omega), if_pos this]
theorem mrg_both (x : Int) (a b : List Int) : mrg (x :: a) (x :: b) = x :: mrg a b := by rw [mrg, if_neg (by omega), if_neg (by omega)]
theorem MrgAt.left {a b out : List Int} {i j : Nat} (h : MrgAt a b out i j) (hi : i < a.length) (hc : j < b.length → a.getD i 0 < b.getD j 0) : MrgAt a b (out ++ [a.getD i 0]) (i + 1) j := by
  unfold MrgAt at h ⊢
  rw [h, drop_at hi, mrg_left, List.append_assoc]; rfl
  intro y b' hb
  have hj : j < b.length := by
    rcases Nat.lt_or_ge j b.length with h1 | h1
    · exact h1
    · rw [List.drop_eq_nil_of_le h1] at hb; cases hb
  rw [drop_at hj] at hb
  injection hb with h1 h2
  rw [← h1]; exact hc hj
theorem MrgAt.right {a b out : List Int} {i j : Nat} (h : MrgAt a b out i j) (hj : j < b.length) (hc : i < a.length → b.getD j 0 < a.getD i 0) : MrgAt a b (out ++ [b.getD j 0]) i (j + 1) := by
  unfold MrgAt at h ⊢
  rw [h, drop_at hj, mrg_right, List.append_assoc]; rfl
  intro x a' ha
  have hi : i < a.length := by
    rcases Nat.lt_or_ge i a.length with h1 | h1
    · exact h1
    · rw [List.drop_eq_nil_of_le h1] at ha; cases ha
  rw [drop_at hi] at ha
  injection ha with h1 h2
  rw [← h1]; exact hc hi
theorem MrgAt.both {a b out : List Int} {i j : Nat} (h : MrgAt a b out i j) (hi : i < a.length) (hj : j < b.length) (hc : a.getD i 0 = b.getD j 0) : MrgAt a b (out ++ [a.getD i 0]) (i + 1) (j + 1) := by
  unfold MrgAt at h ⊢
  rw [h, drop_at hi, drop_at hj, ← hc, mrg_both, List.append_assoc]; rfl
theorem MrgAt.done {a b out : List Int} {i j : Nat} (h : MrgAt a b out i j) (hi : a.length ≤ i) (hj : b.length ≤ j) : mrg a b = out := by
  unfold MrgAt at h
  rw [h, List.drop_eq_nil_of_le hi, List.drop_eq_nil_of_le hj]; simp [mrg]
theorem MrgAt.more {a b out : List Int} {i j : Nat} (h : MrgAt a b out i j) (hc : i < a.length ∨ j < b.length) : out.length < (mrg a b).length := by
  unfold MrgAt at h
  rw [h, List.length_append]
  have := mrg_len (a.drop i) (b.drop j)
  simp only [List.length_drop] at this
  omega
end Go.Proofs.YtkhlllbceceikaaDoor.Cut
namespace Go.Proofs.YtkhlllbceceikaaDoor
open Go.RowKit
set_option linter.unusedVariables false
set_option linter.unusedSimpArgs false
/-- what a Merge tells: a list of its own, or none -/
def MrgOut (o : Option (List Int)) (w : World) (r : Ending) (w' : World) : Prop :=
  ∃ A c, r = .returned (.tuple #[.slice A (o.getD []).length c, .bool o.isSome]) ∧ Below w.heap.size w w' ∧ w'.ownsRow w.heap.size 3 1 (.slice A (o.getD []).length c) (o.getD []).length (ints (o.getD []))
theorem MrgOut.none {w w' : World} (h : Below w.heap.size w w') : MrgOut none w (.returned (.tuple #[.slice none 0 0, .bool false])) w' :=
  ⟨Option.none, 0, rfl, h, World.ownsRow_nil _ _ _ _⟩
theorem MrgOut.some {w w' : World} {A : Option Addr} {c : Nat} {L : List Int} (h : Below w.heap.size w w') (ho : w'.ownsRow w.heap.size 3 1 (.slice A L.length c) L.length (ints L)) : MrgOut (some L) w (.returned (.tuple #[.slice A L.length c, .bool true])) w' :=
  ⟨A, c, rfl, h, ho⟩
theorem merge_none {a b : List Int} {k : Int} (h : ¬ (Cut.Rises a ∧ Cut.Rises b ∧ 0 ≤ k ∧ k ≤ 6 ∧ ((Cut.mrg a b).length : Int) ≤ k)) : Cut.merge a b k = none := by unfold Cut.merge; rw [if_neg h]
theorem merge_some {a b : List Int} {k : Int} (h : Cut.Rises a ∧ Cut.Rises b ∧ 0 ≤ k ∧ k ≤ 6 ∧ ((Cut.mrg a b).length : Int) ≤ k) : Cut.merge a b k = some (Cut.mrg a b) := by unfold Cut.merge; rw [if_pos h]
set_option maxRecDepth 100000 in
set_option maxHeartbeats 4000000 in
theorem rmerge_any (A B : Option Addr) (c d : Nat) (a b : List Int) (k : Int) (w : World) (ha : Rd w 1 A a.length c (ints a)) (hb : Rd w 1 B b.length d (ints b)) (hna : a.length ≤ 1000000) (hnb : b.length ≤ 1000000) :
    Calls Tryd.prog 16 #[.slice A a.length c, .slice B b.length d, .int .i64 k] w (MrgOut (Cut.merge a b k) w) := by
  have HRA := Lib.hid (fun (W : World) (hB : Below w.heap.size w W) => rrises_any A c a W (ha.later hB) hna)
  have HRB := Lib.hid (fun (W : World) (hB : Below w.heap.size w W) => rrises_any B d b W (hb.later hB) hnb)
  have HA := Lib.hid ha
  have HB := Lib.hid hb
  obtain ⟨n, hn⟩ : ∃ n, a.length = n := ⟨_, rfl⟩
  obtain ⟨m, hm⟩ : ∃ n, b.length = n := ⟨_, rfl⟩
  have HN := Lib.hid hn
  have HM := Lib.hid hm
  rw [hn] at HA HRA hna ⊢
  rw [hm] at HB HRB hnb ⊢
  clear ha hb hn hm
  by_cases h1 : Cut.Rises a
  case neg =>
    rw [merge_none (fun h => h1 h.1)]
    have e1 : decide (Cut.Rises a) = false := decide_eq_false h1
    rw [e1] at HRA
    clear h1 e1
    go_enter Tryd.func16, Tryd.ntmps16
    go_wp2_with (go_at_call 42; refine (HRA.out _ (Below.refl _ _)).mono ?_; rintro e w1 ⟨rfl, hb1⟩)
    go_ret2
    exact .none hb1
  have e1 : decide (Cut.Rises a) = true := decide_eq_true h1
  rw [e1] at HRA
  by_cases h2 : Cut.Rises b
  case neg =>
    rw [merge_none (fun h => h2 h.2.1)]
    have e2 : decide (Cut.Rises b) = false := decide_eq_false h2
    rw [e2] at HRB
    clear h1 e1 h2 e2
    go_enter Tryd.func16, Tryd.ntmps16
    go_wp2_with fail
    refine (HRA.out _ (Below.refl _ _)).mono ?_
    rintro e w1 ⟨rfl, hb1⟩
    have B1 := Lib.hid hb1
    clear hb1
    go_wp2_with fail
    refine (HRB.out _ B1.out).mono ?_
    rintro e w2 ⟨rfl, hb2⟩
    have B2 := Lib.hid (below_then B1.out hb2)
    clear hb2
    go_wp2_with fail
    go_ret2
    exact .none B2.out
  have e2 : decide (Cut.Rises b) = true := decide_eq_true h2
  rw [e2] at HRB
  have H12 := Lib.hid (And.intro h1 h2)
  clear h1 e1 h2 e2
  by_cases hk : 0 ≤ k ∧ k ≤ 6
  case neg =>
    rw [merge_none (fun h => hk ⟨h.2.2.1, h.2.2.2.1⟩)]
    by_cases hk0 : k < 0
    · go_enter Tryd.func16, Tryd.ntmps16
      go_wp2_with fail
      refine (HRA.out _ (Below.refl _ _)).mono ?_
      rintro e w1 ⟨rfl, hb1⟩
      have B1 := Lib.hid hb1
      clear hb1
      go_wp2_with fail
      refine (HRB.out _ B1.out).mono ?_
      rintro e w2 ⟨rfl, hb2⟩
      have B2 := Lib.hid (below_then B1.out hb2)
      clear hb2
      go_wp2_with fail
      go_ret2
      exact .none B2.out
    · have hk6 : 6 < k := by omega
      go_enter Tryd.func16, Tryd.ntmps16
      go_wp2_with fail
      refine (HRA.out _ (Below.refl _ _)).mono ?_
      rintro e w1 ⟨rfl, hb1⟩
      have B1 := Lib.hid hb1
      clear hb1
      go_wp2_with fail
      refine (HRB.out _ B1.out).mono ?_
      rintro e w2 ⟨rfl, hb2⟩
      have B2 := Lib.hid (below_then B1.out hb2)
      clear hb2
      go_wp2_with fail
      go_ret2
      exact .none B2.out
  obtain ⟨kn, rfl⟩ : ∃ q : Nat, k = (q : Int) := ⟨k.toNat, by omega⟩
  have hk0 : ¬ (kn : Int) < 0 := by omega
  have hk6 : ¬ 6 < (kn : Int) := by omega
  have hk7 : kn ≤ 6 := by omega
  clear hk
  obtain ⟨o, ho⟩ : ∃ o, Cut.merge a b (kn : Int) = o := ⟨_, rfl⟩
  have HOO := Lib.hid ho
  rw [ho]
  clear ho
  go_enter Tryd.func16, Tryd.ntmps16
  go_wp2_with fail
  refine (HRA.out _ (Below.refl _ _)).mono ?_
  rintro e w1 ⟨rfl, hb1⟩
  have B1 := Lib.hid hb1
  clear hb1
  go_wp2_with fail
  refine (HRB.out _ B1.out).mono ?_
  rintro e w2 ⟨rfl, hb2⟩
  have B2 := Lib.hid (below_then B1.out hb2)
  clear hb2 B1 HRA HRB
  go_wp2_with fail
  go_loopw [8, 9, 10] (fun v8 v9 v10 wx => ∃ (i j : Nat) (AO : Option Addr) (cO : Nat) (out : List Int), i ≤ n ∧ j ≤ m ∧ out.length ≤ kn ∧ v8 = .slice AO out.length cO ∧ v9 = .int .i64 (i : Int) ∧ v10 = .int .i64 (j : Int) ∧ Cut.MrgAt a b out i j ∧ wx.ownsRow w.heap.size 3 1 (.slice AO out.length cO) out.length (ints out) ∧ Below w.heap.size w wx) (fun _ v9 v10 _ => n + m - (intOf v9).toNat - (intOf v10).toNat)
  case atStart => exact ⟨0, 0, none, 0, [], by omega, by omega, by simp, rfl, rfl, rfl, Cut.MrgAt.start a b, World.ownsRow_nil _ _ _ _, B2.out⟩
  case round =>
    obtain ⟨i, j, AO, cO, out, hi, hj, hol, rfl, rfl, rfl, hat, hown, hbe⟩ := hrel
    have HAT := Lib.hid hat
    have HO := Lib.hid hown
    have B3 := Lib.hid hbe
    have hsz := hbe.size
    clear hat hown hbe B2
    by_cases hend : i < n ∨ j < m
    case neg =>
      have hmrg := HAT.out.done (by rw [HN.out]; omega) (by rw [HM.out]; omega)
      have ho : o = some out := by rw [← HOO.out, merge_some ⟨H12.out.1, H12.out.2, by omega, by omega, by rw [hmrg]; omega⟩, hmrg]
      have HOS := Lib.hid ho
      have hi1 : ¬ (i : Int) < (n : Int) := by omega
      have hj1 : ¬ (j : Int) < (m : Int) := by omega
      clear hmrg ho
      go_wp2_with fail
      go_ret2
      rw [HOS.out]
      exact .some B3.out HO.out
    have HEND := Lib.hid hend
    by_cases hfull : out.length = kn
    · have hmore := HAT.out.more (by rw [HN.out, HM.out]; exact HEND.out)
      have ho : o = none := by rw [← HOO.out, merge_none (fun h => by have := h.2.2.2.2; omega)]
      have HON := Lib.hid ho
      have hfull' : (out.length : Int) = (kn : Int) := by omega
      clear hmore hend ho
      by_cases hi1 : (i : Int) < (n : Int)
      · go_wp2_with fail
        go_ret2
        rw [HON.out]
        exact .none B3.out
      · have hj1 : (j : Int) < (m : Int) := by have := HEND.out; omega
        go_wp2_with fail
        go_ret2
        rw [HON.out]
        exact .none B3.out
    have hfull' : ¬ (out.length : Int) = (kn : Int) := by omega
    have hlen : out.length + 1 ≤ kn := by omega
    have hol7 : out.length ≤ 6 := by omega
    -- the arms: from the first, from the second, from both
    have next1 : ∀ (z : Int) (i2 j2 : Nat) (A2 : Option Addr) (c2 : Nat) (wy : World), i2 ≤ n → j2 ≤ m → n + m - i2 - j2 < n + m - i - j → Cut.MrgAt a b (out ++ [z]) i2 j2 → wy.ownsRow w.heap.size 3 1 (.slice A2 (out.length + 1) c2) (out.length + 1) (ints (out ++ [z])) → Below w.heap.size w wy →
        ∃ (i j : Nat) (AO : Option Addr) (cO : Nat) (out' : List Int), i ≤ n ∧ j ≤ m ∧ out'.length ≤ kn ∧ Value.slice A2 (out.length + 1) c2 = .slice AO out'.length cO ∧ Value.int .i64 (i2 : Int) = .int .i64 (i : Int) ∧ Value.int .i64 (j2 : Int) = .int .i64 (j : Int) ∧ Cut.MrgAt a b out' i j ∧ wy.ownsRow w.heap.size 3 1 (.slice AO out'.length cO) out'.length (ints out') ∧ Below w.heap.size w wy :=
      fun z i2 j2 A2 c2 wy h1 h2 _ h4 h5 h6 => ⟨i2, j2, A2, c2, out ++ [z], h1, h2, by simp; omega, by simp, rfl, rfl, h4, by simpa using h5, h6⟩
    have NEXT := Lib.hid next1
    clear next1
    have HFIN := Lib.hid (fun (z : Int) (i2 j2 : Nat) (w9 W : World) (A2 : Option Addr) (c2 : Nat) (hb9 : Below wr.heap.size wr W) (h : (W.alloc (.cells #[.int .i64 z] 3)).grownBy w9 (Value.slice AO out.length cO).ownBlock) =>
      (show Below w.heap.size w w9 from (below_then (below_then B3.out hb9) (below_new W (.cells #[.int .i64 z] 3))).grown h (Nat.le_trans (below_then B3.out hb9).size (by simp)) (fun k hk => own_base HO.out hk)))
    by_cases hjm : j < m
    case neg =>
      have hin : i < n := by omega
      obtain rfl : j = m := by omega
      obtain ⟨pa, hA, hab, d0⟩ := (HA.out.later B3.out).int (k := i) hin
      have hat2 := HAT.out.left (by rw [HN.out]; exact hin) (fun h => absurd h (by rw [HM.out]; exact hjm))
      have HAT2 := Lib.hid hat2
      have hi1 : (i : Int) < (n : Int) := by omega
      clear hat2 hend
      subst hA
      generalize a.getD i 0 = x at d0 HAT2
      go_wp2_with fail
      refine wp_region_still_in (by kernel_rfl) (by kernel_rfl) fun St9 ne9 V9 hV9 hS9 => ?_
      have qd0 := still_cell hV9 d0
      repeat (first | go_big_quiet_step (fail) | quiet_step (fail))
      refine wpQuiet_nil ?_
      intro _ hw9
      obtain ⟨s9, rfl⟩ := hw9
      have hb9 := hV9 s9
      clear qd0 hS9
      generalize V9 s9 = w9 at hb9 ⊢
      clear hV9 s9 V9 ne9 St9
      have hb9L := Lib.hid hb9
      have d9 := (hb9.cell (p := pa.add i) (by rw [add_block]; exact hab)).trans d0
      clear hb9 d0
      have hbL := hb9L
      have O9 := Lib.hid (own_keep HO.out hbL.out)
      have hs9 := (below_then B3.out hbL.out).size
      go_wp2_with (at_builtin; refine wpList_app_int rfl (.tmp 74) (.tmp 79) rfl w.heap.size AO out.length cO out rfl (by exact O9.out) x rfl (by omega) (by exact hs9) ?_; intro A2 c2 wz hownz hgz)
      have HOWNZ := Lib.hid hownz
      have HGZ := Lib.hid (HFIN.out x 0 0 wz _ A2 c2 hbL.out hgz)
      clear hownz hgz
      go_wp2_with fail
      go_roundw
      case rel => exact NEXT.out x (i + 1) j A2 c2 wz (by omega) (by omega) (by omega) HAT2.out HOWNZ.out HGZ.out
      case measure => simp [intOf]; omega
    have hj1 : (j : Int) < (m : Int) := by omega
    have hj2 : ¬ (j : Int) = (m : Int) := by omega
    obtain ⟨pb, hB, hbb, e0⟩ := (HB.out.later B3.out).int (k := j) hjm
    by_cases hin : i < n
    case neg =>
      obtain rfl : i = n := by omega
      have hat2 := HAT.out.right (by rw [HM.out]; exact hjm) (fun h => absurd h (by rw [HN.out]; exact hin))
      have HAT2 := Lib.hid hat2
      clear hat2 hend
      subst hB
      generalize b.getD j 0 = y at e0 HAT2
      go_wp2_with fail
      refine wp_region_still_in (by kernel_rfl) (by kernel_rfl) fun St9 ne9 V9 hV9 hS9 => ?_
      have qe0 := still_cell hV9 e0
      repeat (first | go_big_quiet_step (fail) | quiet_step (fail))
      refine wpQuiet_nil ?_
      intro _ hw9
      obtain ⟨s9, rfl⟩ := hw9
      have hb9 := hV9 s9
      clear qe0 hS9
      generalize V9 s9 = w9 at hb9 ⊢
      clear hV9 s9 V9 ne9 St9
      have hb9L := Lib.hid hb9
      have e9 := (hb9.cell (p := pb.add j) (by rw [add_block]; exact hbb)).trans e0
      clear hb9 e0
      go_wp2_with fail
      refine wp_region_still_in (by kernel_rfl) (by kernel_rfl) fun St8 ne8 V8 hV8 hS8 => ?_
      have qe9 := still_cell hV8 e9
      repeat (first | go_big_quiet_step (fail) | quiet_step (fail))
      refine wpQuiet_nil ?_
      intro _ hw8
      obtain ⟨s8, rfl⟩ := hw8
      have hb8 := hV8 s8
      clear qe9 hS8
      generalize V8 s8 = w8 at hb8 ⊢
      clear hV8 s8 V8 ne8 St8
      have hb8L := Lib.hid hb8
      have e8 := (hb8.cell (p := pb.add j) (by rw [add_block]; exact Nat.lt_of_lt_of_le hbb hb9L.out.size)).trans e9
      clear hb8 e9
      have hbL := Lib.hid (below_then hb9L.out hb8L.out)
      have O9 := Lib.hid (own_keep HO.out hbL.out)
      have hs9 := (below_then B3.out hbL.out).size
      go_wp2_with (at_builtin; refine wpList_app_int rfl (.tmp 99) (.tmp 104) rfl w.heap.size AO out.length cO out rfl (by exact O9.out) y rfl (by omega) (by exact hs9) ?_; intro A2 c2 wz hownz hgz)
      have HOWNZ := Lib.hid hownz
      have HGZ := Lib.hid (HFIN.out y 0 0 wz _ A2 c2 hbL.out hgz)
      clear hownz hgz
      go_wp2_with fail
      go_roundw
      case rel => exact NEXT.out y i (j + 1) A2 c2 wz (by omega) (by omega) (by omega) HAT2.out HOWNZ.out HGZ.out
      case measure => simp [intOf]; omega
    have hi1 : (i : Int) < (n : Int) := by omega
    have hi2 : ¬ (i : Int) = (n : Int) := by omega
    obtain ⟨pa, hA, hab, d0⟩ := (HA.out.later B3.out).int (k := i) hin
    have hl := fun h => HAT.out.left (by rw [HN.out]; exact hin) (fun _ => h)
    have hr := fun h => HAT.out.right (by rw [HM.out]; exact hjm) (fun _ => h)
    have hbo := HAT.out.both (by rw [HN.out]; exact hin) (by rw [HM.out]; exact hjm)
    have HL := Lib.hid hl
    have HR2 := Lib.hid hr
    have HBO := Lib.hid hbo
    clear hl hr hbo hend
    subst hA
    subst hB
    generalize a.getD i 0 = x at d0 HL HR2 HBO
    generalize b.getD j 0 = y at e0 HL HR2 HBO
    by_cases hxy : x < y
    case pos =>
      have HAT2 := Lib.hid (HL.out hxy)
      go_wp2_with fail
      refine wp_region_still_in (by kernel_rfl) (by kernel_rfl) fun St9 ne9 V9 hV9 hS9 => ?_
      have qd0 := still_cell hV9 d0
      have qe0 := still_cell hV9 e0
      repeat (first | go_big_quiet_step (fail) | quiet_step (fail))
      refine wpQuiet_nil ?_
      intro _ hw9
      obtain ⟨s9, rfl⟩ := hw9
      have hb9 := hV9 s9
      clear qd0 qe0 hS9
      generalize V9 s9 = w9 at hb9 ⊢
      clear hV9 s9 V9 ne9 St9
      have hb9L := Lib.hid hb9
      have d9 := (hb9.cell (p := pa.add i) (by rw [add_block]; exact hab)).trans d0
      have e9 := (hb9.cell (p := pb.add j) (by rw [add_block]; exact hbb)).trans e0
      clear hb9 d0 e0
      have hbL := hb9L
      have O9 := Lib.hid (own_keep HO.out hbL.out)
      have hs9 := (below_then B3.out hbL.out).size
      go_wp2_with (at_builtin; refine wpList_app_int rfl (.tmp 74) (.tmp 79) rfl w.heap.size AO out.length cO out rfl (by exact O9.out) x rfl (by omega) (by exact hs9) ?_; intro A2 c2 wz hownz hgz)
      have HOWNZ := Lib.hid hownz
      have HGZ := Lib.hid (HFIN.out x 0 0 wz _ A2 c2 hbL.out hgz)
      clear hownz hgz
      go_wp2_with fail
      go_roundw
      case rel => exact NEXT.out x (i + 1) j A2 c2 wz (by omega) (by omega) (by omega) HAT2.out HOWNZ.out HGZ.out
      case measure => simp [intOf]; omega
    by_cases hyx : y < x
    case pos =>
      have HAT2 := Lib.hid (HR2.out hyx)
      have hdx : decide (x < y) = false := decide_eq_false hxy
      have hdy : decide (y < x) = true := decide_eq_true hyx
      go_wp2_with fail
      refine wp_region_still_in (by kernel_rfl) (by kernel_rfl) fun St9 ne9 V9 hV9 hS9 => ?_
      have qd0 := still_cell hV9 d0
      have qe0 := still_cell hV9 e0
      repeat (first | go_big_quiet_step (fail) | quiet_step (fail))
      refine wpQuiet_nil ?_
      intro _ hw9
      obtain ⟨s9, rfl⟩ := hw9
      have hb9 := hV9 s9
      clear qd0 qe0 hS9
      generalize V9 s9 = w9 at hb9 ⊢
      clear hV9 s9 V9 ne9 St9
      have hb9L := Lib.hid hb9
      have d9 := (hb9.cell (p := pa.add i) (by rw [add_block]; exact hab)).trans d0
      have e9 := (hb9.cell (p := pb.add j) (by rw [add_block]; exact hbb)).trans e0
      clear hb9 d0 e0
      go_wp2_with fail
      refine wp_region_still_in (by kernel_rfl) (by kernel_rfl) fun St8 ne8 V8 hV8 hS8 => ?_
      have qd9 := still_cell hV8 d9
      have qe9 := still_cell hV8 e9
      repeat (first | go_big_quiet_step (fail) | quiet_step (fail))
      refine wpQuiet_nil ?_
      intro _ hw8
      obtain ⟨s8, rfl⟩ := hw8
      have hb8 := hV8 s8
      clear qd9 qe9 hS8
      generalize V8 s8 = w8 at hb8 ⊢
      clear hV8 s8 V8 ne8 St8
      have hb8L := Lib.hid hb8
      have d8 := (hb8.cell (p := pa.add i) (by rw [add_block]; exact Nat.lt_of_lt_of_le hab hb9L.out.size)).trans d9
      have e8 := (hb8.cell (p := pb.add j) (by rw [add_block]; exact Nat.lt_of_lt_of_le hbb hb9L.out.size)).trans e9
      clear hb8 d9 e9
      have hbL := Lib.hid (below_then hb9L.out hb8L.out)
      have O9 := Lib.hid (own_keep HO.out hbL.out)
      have hs9 := (below_then B3.out hbL.out).size
      go_wp2_with (at_builtin; refine wpList_app_int rfl (.tmp 99) (.tmp 104) rfl w.heap.size AO out.length cO out rfl (by exact O9.out) y rfl (by omega) (by exact hs9) ?_; intro A2 c2 wz hownz hgz)
      have HOWNZ := Lib.hid hownz
      have HGZ := Lib.hid (HFIN.out y 0 0 wz _ A2 c2 hbL.out hgz)
      clear hownz hgz
      go_wp2_with fail
      go_roundw
      case rel => exact NEXT.out y i (j + 1) A2 c2 wz (by omega) (by omega) (by omega) HAT2.out HOWNZ.out HGZ.out
      case measure => simp [intOf]; omega
    obtain rfl : x = y := by omega
    have HAT2 := Lib.hid (HBO.out rfl)
    go_wp2_with fail
    refine wp_region_still_in (by kernel_rfl) (by kernel_rfl) fun St9 ne9 V9 hV9 hS9 => ?_
    have qd0 := still_cell hV9 d0
    have qe0 := still_cell hV9 e0
    repeat (first | go_big_quiet_step (fail) | quiet_step (fail))
    refine wpQuiet_nil ?_
    intro _ hw9
    obtain ⟨s9, rfl⟩ := hw9
    have hb9 := hV9 s9
    clear qd0 qe0 hS9
    generalize V9 s9 = w9 at hb9 ⊢
    clear hV9 s9 V9 ne9 St9
    have hb9L := Lib.hid hb9
    have d9 := (hb9.cell (p := pa.add i) (by rw [add_block]; exact hab)).trans d0
    have e9 := (hb9.cell (p := pb.add j) (by rw [add_block]; exact hbb)).trans e0
    clear hb9 d0 e0
    go_wp2_with fail
    refine wp_region_still_in (by kernel_rfl) (by kernel_rfl) fun St8 ne8 V8 hV8 hS8 => ?_
    have qd9 := still_cell hV8 d9
    have qe9 := still_cell hV8 e9
    repeat (first | go_big_quiet_step (fail) | quiet_step (fail))
    refine wpQuiet_nil ?_
    intro _ hw8
    obtain ⟨s8, rfl⟩ := hw8
    have hb8 := hV8 s8
    clear qd9 qe9 hS8
    generalize V8 s8 = w8 at hb8 ⊢
    clear hV8 s8 V8 ne8 St8
    have hb8L := Lib.hid hb8
    have d8 := (hb8.cell (p := pa.add i) (by rw [add_block]; exact Nat.lt_of_lt_of_le hab hb9L.out.size)).trans d9
    have e8 := (hb8.cell (p := pb.add j) (by rw [add_block]; exact Nat.lt_of_lt_of_le hbb hb9L.out.size)).trans e9
    clear hb8 d9 e9
    have hbL := Lib.hid (below_then hb9L.out hb8L.out)
    have O9 := Lib.hid (own_keep HO.out hbL.out)
    have hs9 := (below_then B3.out hbL.out).size
    go_wp2_with (at_builtin; refine wpList_app_int rfl (.tmp 41) (.tmp 46) rfl w.heap.size AO out.length cO out rfl (by exact O9.out) x rfl (by omega) (by exact hs9) ?_; intro A2 c2 wz hownz hgz)
    have HOWNZ := Lib.hid hownz
    have HGZ := Lib.hid (HFIN.out x 0 0 wz _ A2 c2 hbL.out hgz)
    clear hownz hgz
    go_wp2_with fail
    go_roundw
    case rel => exact NEXT.out x (i + 1) (j + 1) A2 c2 wz (by omega) (by omega) (by omega) HAT2.out HOWNZ.out HGZ.out
    case measure => simp [intOf]; omega
end Go.Proofs.YtkhlllbceceikaaDoor
