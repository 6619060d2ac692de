/- The law CutsMerge: all of both, once: of any two lists that rise, made one: they rise, have all of both and nothing else; in either order the same. · The card ties the row of columns. -/
import Derived.Test.YtkhlllbceceikaaDoorOpenG
import Derived.Test.YtkhlllbceceikaaDoorHelp24
import Derived.Test.YtkhlllbceceikaaDoorLive24
namespace Go.Proofs.YtkhlllbceceikaaDoor
open Go.ChangeShapes Go.WideShapes Go.ChangeAt Go.RowKit Go.Joins
set_option linter.unusedVariables false
set_option linter.unusedSimpArgs false
theorem merge_comm (a b : List Int) (k : Int) : Cut.merge a b k = Cut.merge b a k := by
  by_cases h : Cut.Rises a ∧ Cut.Rises b
  · unfold Cut.merge
    rw [Cut.mrg_comm h.1 h.2]
    simp [h.1, h.2]
  · rw [merge_none fun g => h ⟨g.1, g.2.1⟩, merge_none fun g => h ⟨g.2.1, g.1⟩]
theorem merge_nil {a : List Int} (h : Cut.Rises a) (hl : a.length ≤ 6) : Cut.merge a [] 6 = some a := by
  have e : Cut.mrg a [] = a := by cases a <;> simp [Cut.mrg]
  rw [merge_some ⟨h, List.Pairwise.nil, by omega, by omega, by rw [e]; omega⟩, e]
theorem mrg_none_out {w w' : World} {e : Ending} (h : MrgOut none w e w') : ∃ A c, e = .returned (.tuple #[.slice A 0 c, .bool false]) ∧ Below w.heap.size w w' ∧ Rd w' 1 A 0 c (ints []) := by
  obtain ⟨A, c, he, hb, ho⟩ := h
  exact ⟨A, c, he, hb, Rd.of_own ho⟩
theorem mrg_some_out {w w' : World} {e : Ending} {L : List Int} (h : MrgOut (some L) w e w') : ∃ A c, e = .returned (.tuple #[.slice A L.length c, .bool true]) ∧ Below w.heap.size w w' ∧ Rd w' 1 A L.length c (ints L) := by
  obtain ⟨A, c, he, hb, ho⟩ := h
  exact ⟨A, c, he, hb, Rd.of_own ho⟩

set_option maxRecDepth 100000 in
set_option maxHeartbeats 4000000 in
theorem cutsMerge_walk (A : Option Addr) (c : Nat) (a : List Int) (B : Option Addr) (d : Nat) (b : List Int) (k : Int) (w : World)
    (hra : Rd w 1 A a.length c (ints a)) (hba : ∀ x ∈ a, -9223372036854775808 ≤ x ∧ x ≤ 9223372036854775807) (hrb : Rd w 1 B b.length d (ints b)) (hbb : ∀ x ∈ b, -9223372036854775808 ≤ x ∧ x ≤ 9223372036854775807) (hcols : COLS w) :
    Calls Tryd.prog 8 #[.slice A a.length c, .slice B b.length d, .int .i64 k] w fun e w' => e = .returned (.bool true) ∧ Below w.heap.size w w' := by
  have HRA := Lib.hid hra
  have HRB := Lib.hid hrb
  have HC := Lib.hid hcols
  clear hra hrb hcols hba hbb
  go_enter Tryd.func8, Tryd.ntmps8
  go_wp2_with fail
  refine (live24_any _ HC.out).mono ?_
  rintro e1 w1 ⟨rfl, hb1⟩
  have Q1 := Lib.hid hb1
  clear hb1
  by_cases h1 : (a.length : Int) ≤ 6
  case neg =>
    have h1' : (6 : Int) < (a.length : Int) := by omega
    go_wp2_with fail
    go_ret
    exact ⟨rfl, Q1.out⟩
  by_cases h2 : (b.length : Int) ≤ 6
  case neg =>
    have h2' : (6 : Int) < (b.length : Int) := by omega
    go_wp2_with fail
    go_ret
    exact ⟨rfl, Q1.out⟩
  by_cases h3 : k < 0
  case pos =>
    go_wp2_with fail
    go_ret
    exact ⟨rfl, Q1.out⟩
  by_cases h4 : 6 < k
  case pos =>
    have h4' : decide (6 < k) = true := decide_eq_true h4
    go_wp2_with fail
    go_ret
    exact ⟨rfl, Q1.out⟩
  have h4' : decide (6 < k) = false := decide_eq_false h4
  have N1 := Lib.hid (show a.length ≤ 400000 by omega)
  have N2 := Lib.hid (show b.length ≤ 400000 by omega)
  have N3 := Lib.hid (show a.length ≤ 6 by omega)
  cases ho : Cut.merge a b k with
  | none =>
    have M1 := Lib.hid (cmerge_any A B c d a b k w1 (HRA.out.later Q1.out) (HRB.out.later Q1.out) N1.out N2.out)
    rw [ho] at M1
    go_wp2_with fail
    refine M1.out.mono ?_
    intro e1 w2 h
    obtain ⟨AM, cM, rfl, hb2, hr2⟩ := mrg_none_out h
    have Q2 := Lib.hid (below_then Q1.out hb2)
    have R2 := Lib.hid hr2
    have M2 := Lib.hid (cmerge_any B A d c b a k w2 (HRB.out.later Q2.out) (HRA.out.later Q2.out) N2.out N1.out)
    rw [merge_comm, ho] at M2
    clear h hb2 hr2 M1
    go_wp2_with fail
    refine M2.out.mono ?_
    intro e1 w3 h
    obtain ⟨AN, cN, rfl, hb3, hr3⟩ := mrg_none_out h
    have Q3 := Lib.hid (below_then Q2.out hb3)
    have HI := Lib.hid (rints_any w3 AM AN cM cN [] [] (R2.out.later hb3) hr3 (by decide))
    rw [show decide (([] : List Int) = []) = true from rfl] at HI
    clear h hb3 hr3 M2
    go_wp2_with fail
    refine HI.out.mono ?_
    rintro e1 w4 ⟨rfl, hb4⟩
    have Q4 := Lib.hid (below_then Q3.out hb4)
    clear hb4
    go_wp2_with fail
    go_ret
    exact ⟨rfl, Q4.out⟩
  | some L =>
    obtain ⟨hL, hri, hlk, -, -⟩ := Cut.merge_mem ho
    have hab : Cut.Rises a ∧ Cut.Rises b := by
      refine Classical.byContradiction fun g => ?_
      rw [merge_none fun g2 => g ⟨g2.1, g2.2.1⟩] at ho
      cases ho
    have hmem : ∀ z, z ∈ L ↔ z ∈ a ∨ z ∈ b := fun z => by rw [hL]; exact Cut.mem_mrg a b z
    have RI := Lib.hid hri
    have ME := Lib.hid hmem
    have LK := Lib.hid hlk
    have RA := Lib.hid hab.1
    have M1 := Lib.hid (cmerge_any A B c d a b k w1 (HRA.out.later Q1.out) (HRB.out.later Q1.out) N1.out N2.out)
    rw [ho] at M1
    clear hL hri hlk hab hmem
    go_wp2_with fail
    refine M1.out.mono ?_
    intro e1 w2 h
    obtain ⟨AM, cM, rfl, hb2, hr2⟩ := mrg_some_out h
    have Q2 := Lib.hid (below_then Q1.out hb2)
    have R2 := Lib.hid hr2
    have M2 := Lib.hid (cmerge_any B A d c b a k w2 (HRB.out.later Q2.out) (HRA.out.later Q2.out) N2.out N1.out)
    rw [merge_comm, ho] at M2
    clear h hb2 hr2 M1
    go_wp2_with fail
    refine M2.out.mono ?_
    intro e1 w3 h
    obtain ⟨AN, cN, rfl, hb3, hr3⟩ := mrg_some_out h
    have Q3 := Lib.hid (below_then Q2.out hb3)
    have R3 := Lib.hid (R2.out.later hb3)
    have LN := Lib.hid (show L.length ≤ 6 by have := LK.out; omega)
    have HI := Lib.hid (rints_any w3 AM AN cM cN L L (R2.out.later hb3) hr3 (by have := LN.out; omega))
    rw [show decide (L = L) = true from decide_eq_true rfl] at HI
    clear h hb3 hr3 M2 R2 ho
    obtain ⟨n, hn⟩ : ∃ n, L.length = n := ⟨_, rfl⟩
    have HN := Lib.hid hn
    rw [hn] at HI R3 ⊢
    clear hn
    go_wp2_with fail
    refine HI.out.mono ?_
    rintro e1 w4 ⟨rfl, hb4⟩
    have Q4 := Lib.hid (below_then Q3.out hb4)
    have R4 := Lib.hid (R3.out.later hb4)
    have HA4 := Lib.hid (HRA.out.later Q4.out)
    have HB4 := Lib.hid (HRB.out.later Q4.out)
    clear hb4 HI R3
    go_wp2_with fail
    go_loopw [12] (fun i wx => ∃ q : Nat, q ≤ n ∧ i = .int .i64 (q : Int) ∧ Below w4.heap.size w4 wx) (fun i _ => n - (intOf i).toNat)
    case atStart => exact ⟨0, by omega, rfl, Below.refl _ _⟩
    case round =>
      obtain ⟨q, hq, rfl, hB⟩ := hrel
      have B1 := Lib.hid hB
      clear hB
      by_cases hlt : q < n
      case neg =>
        obtain rfl : q = n := by omega
        have M5 := Lib.hid (cmerge_any A none c 0 a [] 6 wr (HA4.out.later B1.out) (Rd.none0 _ _ _ _ (fun _ => rfl)) N1.out (by decide))
        rw [merge_nil RA.out N3.out] at M5
        go_wp2_with fail
        refine M5.out.mono ?_
        intro e1 w5 h
        obtain ⟨AS, cS, rfl, hb5, hr5⟩ := mrg_some_out h
        have B5 := Lib.hid (below_then B1.out hb5)
        have R5 := Lib.hid hr5
        have hle : decide ((q : Int) ≤ k) = true := decide_eq_true (by have := LK.out; rw [HN.out] at this; exact this)
        have HAA := Lib.hid (fun W (h : Below w5.heap.size w5 W) => all_yes AM A cM c L a W (by rw [HN.out]; exact (R4.out.later B5.out).later h) ((HA4.out.later B5.out).later h) (by have := LN.out; omega) (by have := N1.out; omega) (fun z hz => (ME.out z).2 (.inl hz)))
        have HAB := Lib.hid (fun W (h : Below w5.heap.size w5 W) => all_yes AM B cM d L b W (by rw [HN.out]; exact (R4.out.later B5.out).later h) ((HB4.out.later B5.out).later h) (by have := LN.out; omega) (by have := N2.out; omega) (fun z hz => (ME.out z).2 (.inr hz)))
        rw [HN.out] at HAA HAB
        clear h hb5 hr5 M5
        go_wp2_with fail
        refine (HAA.out w5 (Below.refl _ _)).mono ?_
        rintro e1 w6 ⟨rfl, hb6⟩
        have B6 := Lib.hid hb6
        clear hb6
        go_wp2_with fail
        refine (HAB.out w6 B6.out).mono ?_
        rintro e1 w7 ⟨rfl, hb7⟩
        have B7 := Lib.hid (below_then B6.out hb7)
        have HI := Lib.hid (rints_any w7 AS A cS c a a (R5.out.later B7.out) ((HA4.out.later B5.out).later B7.out) (by have := N1.out; omega))
        rw [show decide (a = a) = true from decide_eq_true rfl] at HI
        clear hb7
        go_wp2_with fail
        refine HI.out.mono ?_
        rintro e1 w8 ⟨rfl, hb8⟩
        have B8 := Lib.hid (below_then B7.out hb8)
        clear hb8
        go_wp2_with fail
        go_ret
        exact ⟨rfl, below_then Q4.out (below_then B5.out B8.out)⟩
      obtain ⟨am, hA, hab, d0⟩ := (R4.out.later B1.out).int (k := q) hlt
      subst hA
      have hyl := getD_mem (l := L) (k := q) (by rw [HN.out]; exact hlt)
      have hmy := (ME.out _).1 hyl
      have hlt' : (q : Int) < (n : Int) := by omega
      have HA5 := Lib.hid (fun W y (h : Below wr.heap.size wr W) => has_any A c a y W ((HA4.out.later B1.out).later h) (by have := N1.out; omega))
      have HB5 := Lib.hid (fun W y (h : Below wr.heap.size wr W) => has_any B d b y W ((HB4.out.later B1.out).later h) (by have := N2.out; omega))
      rcases Nat.eq_zero_or_pos q with h0 | h0
      · subst h0
        clear hyl
        generalize L.getD 0 0 = y at hmy d0
        rw [show am.add 0 = am from if_pos rfl] at d0
        by_cases hya : y ∈ a
        · have H1 := Lib.hid (fun W (h : Below wr.heap.size wr W) => (show Calls Tryd.prog 28 #[.slice A a.length c, .int .i64 y] W fun r w' => r = .returned (.bool true) ∧ Below W.heap.size W w' by
            have h1 := HA5.out W y h
            rwa [show decide (y ∈ a) = true from decide_eq_true hya] at h1))
          clear hya hmy
          go_wp2_with fail
          refine wp_region_still_in (by kernel_rfl) (by kernel_rfl) fun St9 ne9 V9 hV9 hS9 => ?_
          have qd0 := still_cell hV9 d0
          repeat (first | go_big_quiet_step ((go_at_call 28; exact Calls.still hV9 hS9 (H1.out _ (hV9 _)))) | quiet_step ((go_at_call 28; exact Calls.still hV9 hS9 (H1.out _ (hV9 _)))))
          refine wpQuiet_nil ?_
          intro _ hw9
          obtain ⟨s9, rfl⟩ := hw9
          have hb9 := hV9 s9
          clear qd0 hS9
          generalize V9 s9 = w9 at hb9 ⊢
          clear hV9 s9 V9 ne9 St9
          have B9 := Lib.hid (below_then B1.out hb9)
          clear hb9
          go_wp2_with fail
          go_roundw
          case rel => exact ⟨1, by omega, by go_num, B9.out⟩
          case measure => simp [intOf]; omega
        · have hyb : y ∈ b := by rcases hmy with h | h
                                 · exact absurd h hya
                                 · exact h
          have H1 := Lib.hid (fun W (h : Below wr.heap.size wr W) => (show Calls Tryd.prog 28 #[.slice A a.length c, .int .i64 y] W fun r w' => r = .returned (.bool false) ∧ Below W.heap.size W w' by
            have h1 := HA5.out W y h
            rwa [show decide (y ∈ a) = false from decide_eq_false hya] at h1))
          have H2 := Lib.hid (fun W (h : Below wr.heap.size wr W) => (show Calls Tryd.prog 28 #[.slice B b.length d, .int .i64 y] W fun r w' => r = .returned (.bool true) ∧ Below W.heap.size W w' by
            have h1 := HB5.out W y h
            rwa [show decide (y ∈ b) = true from decide_eq_true hyb] at h1))
          clear hya hmy hyb
          go_wp2_with fail
          refine wp_region_still_in (by kernel_rfl) (by kernel_rfl) fun St9 ne9 V9 hV9 hS9 => ?_
          have qd0 := still_cell hV9 d0
          repeat (first | go_big_quiet_step (first | (go_at_call 28; with_reducible exact Calls.still hV9 hS9 (H1.out _ (hV9 _))) | (go_at_call 28; with_reducible exact Calls.still hV9 hS9 (H2.out _ (hV9 _)))) | quiet_step (first | (go_at_call 28; with_reducible exact Calls.still hV9 hS9 (H1.out _ (hV9 _))) | (go_at_call 28; with_reducible exact Calls.still hV9 hS9 (H2.out _ (hV9 _)))))
          refine wpQuiet_nil ?_
          intro _ hw9
          obtain ⟨s9, rfl⟩ := hw9
          have hb9 := hV9 s9
          clear qd0 hS9
          generalize V9 s9 = w9 at hb9 ⊢
          clear hV9 s9 V9 ne9 St9
          have B9 := Lib.hid (below_then B1.out hb9)
          clear hb9
          go_wp2_with fail
          go_roundw
          case rel => exact ⟨1, by omega, by go_num, B9.out⟩
          case measure => simp [intOf]; omega
      · obtain ⟨j, rfl⟩ : ∃ j, q = j + 1 := ⟨q - 1, by omega⟩
        obtain ⟨a2, e2, -, d1⟩ := (R4.out.later B1.out).int (k := j) (by omega)
        obtain rfl := Option.some.inj e2
        have hlx := rises_at RI.out (show j < j + 1 by omega) (by rw [HN.out]; exact hlt)
        clear hyl
        generalize L.getD (j + 1) 0 = y at hmy d0 hlx
        generalize L.getD j 0 = z at d1 hlx
        obtain ⟨m, hmm⟩ : ∃ m : Nat, j + 1 = m := ⟨_, rfl⟩
        have hm1 : (m : Int) - 1 = (j : Int) := by omega
        have hm2 : 0 < m := by omega
        have hn6 : n ≤ 6 := by have := LN.out; rw [HN.out] at this; exact this
        have hm6 : m ≤ 6 := by omega
        have hjn : (j : Int) < (n : Int) := by omega
        have hjw : IntKind.i64.wrap (j : Int) = (j : Int) := IntWalk.i64_in _ (by have := LN.out; rw [HN.out] at this; omega)
        rw [hmm] at d0 hlt' hlt ⊢
        have h5 : decide (0 < m) = true := decide_eq_true (by omega)
        have h6 : decide (y ≤ z) = false := decide_eq_false (by omega)
        clear hmm e2 hlx
        by_cases hya : y ∈ a
        · have H1 := Lib.hid (fun W (h : Below wr.heap.size wr W) => (show Calls Tryd.prog 28 #[.slice A a.length c, .int .i64 y] W fun r w' => r = .returned (.bool true) ∧ Below W.heap.size W w' by
            have h1 := HA5.out W y h
            rwa [show decide (y ∈ a) = true from decide_eq_true hya] at h1))
          clear hya hmy
          go_wp2_with fail
          refine wp_region_still_in (by kernel_rfl) (by kernel_rfl) fun St9 ne9 V9 hV9 hS9 => ?_
          have qd0 := still_cell hV9 d0
          have qd1 := still_cell hV9 d1
          repeat (first | go_big_quiet_step ((go_at_call 28; exact Calls.still hV9 hS9 (H1.out _ (hV9 _)))) | quiet_step ((go_at_call 28; exact Calls.still hV9 hS9 (H1.out _ (hV9 _)))))
          refine wpQuiet_nil ?_
          intro _ hw9
          obtain ⟨s9, rfl⟩ := hw9
          have hb9 := hV9 s9
          clear qd0 qd1 hS9
          generalize V9 s9 = w9 at hb9 ⊢
          clear hV9 s9 V9 ne9 St9
          have B9 := Lib.hid (below_then B1.out hb9)
          clear hb9
          go_wp2_with fail
          go_roundw
          case rel => exact ⟨m + 1, by omega, by go_num, B9.out⟩
          case measure => simp [intOf]; omega
        · have hyb : y ∈ b := by rcases hmy with h | h
                                 · exact absurd h hya
                                 · exact h
          have H1 := Lib.hid (fun W (h : Below wr.heap.size wr W) => (show Calls Tryd.prog 28 #[.slice A a.length c, .int .i64 y] W fun r w' => r = .returned (.bool false) ∧ Below W.heap.size W w' by
            have h1 := HA5.out W y h
            rwa [show decide (y ∈ a) = false from decide_eq_false hya] at h1))
          have H2 := Lib.hid (fun W (h : Below wr.heap.size wr W) => (show Calls Tryd.prog 28 #[.slice B b.length d, .int .i64 y] W fun r w' => r = .returned (.bool true) ∧ Below W.heap.size W w' by
            have h1 := HB5.out W y h
            rwa [show decide (y ∈ b) = true from decide_eq_true hyb] at h1))
          clear hya hmy hyb
          go_wp2_with fail
          refine wp_region_still_in (by kernel_rfl) (by kernel_rfl) fun St9 ne9 V9 hV9 hS9 => ?_
          have qd0 := still_cell hV9 d0
          have qd1 := still_cell hV9 d1
          repeat (first | go_big_quiet_step (first | (go_at_call 28; with_reducible exact Calls.still hV9 hS9 (H1.out _ (hV9 _))) | (go_at_call 28; with_reducible exact Calls.still hV9 hS9 (H2.out _ (hV9 _)))) | quiet_step (first | (go_at_call 28; with_reducible exact Calls.still hV9 hS9 (H1.out _ (hV9 _))) | (go_at_call 28; with_reducible exact Calls.still hV9 hS9 (H2.out _ (hV9 _)))))
          refine wpQuiet_nil ?_
          intro _ hw9
          obtain ⟨s9, rfl⟩ := hw9
          have hb9 := hV9 s9
          clear qd0 qd1 hS9
          generalize V9 s9 = w9 at hb9 ⊢
          clear hV9 s9 V9 ne9 St9
          have B9 := Lib.hid (below_then B1.out hb9)
          clear hb9
          go_wp2_with fail
          go_roundw
          case rel => exact ⟨m + 1, by omega, by go_num, B9.out⟩
          case measure => simp [intOf]; omega

set_option maxRecDepth 100000 in
theorem cutsMerge_lifted (os : Os) (started : os.Started) (H : Type) (enc : TypeId × Value → H) :
    ReturnsInHanded {} Tryd.checked os 8 .any (fun w args => (Rows.cutsMergeSpec.pre enc Tryd.prog Tryd.f8 [] false w args ∧ laidMetH Tryd.prog laidC w) ∧ sizedMet enc Tryd.prog Tryd.f8 (OpenSpec.ofChange Rows.cutsMergeSpec) false w args)
      (Rows.cutsMergeSpec.post enc Tryd.prog Tryd.f8 false true false false) := by
  have hr : ∀ t ∈ Tryd.f8.params.toList, Tryd.prog.readableRec t = true ∧ t < Tryd.prog.types.size := by
    have h : Tryd.f8.params.toList.all (fun t => Tryd.prog.readableRec t && decide (t < Tryd.prog.types.size)) = true := by kernel_rfl
    intro t ht
    simpa using List.all_eq_true.1 h t ht
  refine returnsInHanded_of_change_and (C := Tryd.checked) (X := fun w _ => laidMetH Tryd.prog laidC w) (fun _ _ _ hh h => h.of_heap hh) own started (by kernel_rfl) Tryd.func8
    (ChangeSpec.witness_shaped (enc := enc) (C := Tryd.checked) (os := os) (X := fun w _ => laidMetH Tryd.prog laidC w) false (World.doorLaid Tryd.prog 400 os) #[.slice none 0 0, .slice none 0 0, .int .i64 0] 8 rfl (World.shaped_of_RefB (by kernel_rfl) (by kernel_rfl)) (by kernel_rfl) (by kernel_rfl) (by kernel_rfl) (door_met os _)) ?_
  intro W base args ds gs before hval0 hW _ _ hL _
  have hcols := cols_of_laid hL
  have hval : ∀ (j : Nat) t v, Tryd.f8.params[j]? = some t → args[j]? = some v → Value.okWide Tryd.prog W .any base t v := hval0
  have hW' := hW
  obtain ⟨p, q, hA0, hV, rfl, hfz, hnd⟩ := hW
  have hA1 : DataW.TrodAll enc Tryd.prog W 0 (fun _ => true) true Tryd.f8.params.toList args.toList ds p := hA0
  have hA := hA1
  rw [Tryd.params8] at hA hval
  obtain ⟨v0, vs0, d0, ds0, p0, q0, hargs, rfl, rfl, h0, r0⟩ := trodAll_cons hA
  obtain ⟨v1, vs1, d1, ds1, p1, q1, rfl, rfl, rfl, h1, r1⟩ := trodAll_cons r0
  obtain ⟨v2, vs2, d2, ds2, p2, q2, rfl, rfl, rfl, h2, r2⟩ := trodAll_cons r1
  obtain ⟨rfl, rfl, rfl⟩ := trodAll_nil r2
  obtain rfl : args = #[v0, v1, v2] := by cases args; simp_all
  obtain ⟨rfl, rfl⟩ := trodVars_none hV
  obtain ⟨A0, c0, l0, rfl, hr0, hb0⟩ := open_list (hval 0 24 v0 rfl rfl) h0
  obtain ⟨A1, c1, l1, rfl, hr1, hb1⟩ := open_list (hval 1 24 v1 rfl rfl) h1
  obtain ⟨a2, rfl, rfl, rfl, w2⟩ := open_int Tryd.underlying3 (hval 2 3 v2 rfl rfl) h2
  clear hA0 hval0
  simp only [List.append_nil] at hW' hA1
  refine (cutsMerge_walk A0 c0 l0 A1 c1 l1 a2 W hr0 hb0 hr1 hb1 hcols).mono fun e W' ⟨he, hb⟩ => ?_
  subst he
  exact ⟨_, rfl, law_post laidOut hr rfl hW' hA1 rfl rfl Tryd.underlying4 hb⟩

theorem cutsMerge_over : Rows.cutsMergeRow.holds Tryd.pinned (OpenSpec.ofChange Rows.cutsMergeSpec) :=
  OpenClaim.holds_of_wide 8 Tryd.f8 rfl rfl rfl rfl rfl rfl rfl ⟨rfl, rfl, rfl, rfl, rfl⟩ rfl rfl rfl rfl rfl (by kernel_rfl) Tryd.func8 (by kernel_rfl)
    (of_decide_eq_true (by kernel_rfl)) (by unfold Func.isWrapper; first | (rw [if_pos (by decide +kernel)]; kernel_rfl) | (rw [if_neg (by decide +kernel)]; exact ⟨rfl, rfl⟩))
    (fun os started H enc _ => cutsMerge_lifted os started H enc)

/-- the card -/
theorem cutsMergeCard_holds : Rows.CutsMergeCardSaid :=
  Claim7.holds_tied_plain_at .later [] [.data] true Rows.cutsMergeCard.stood.harness false
    cutsMerge_over (fun _ h => by cases h) (by kernel_rfl) (fun _ h => by cases h) cutsMerge_row_tie rfl ⟨rfl, rfl⟩ (by kernel_rfl) rfl
    (fun f fn hf hfn => by
      obtain rfl : f = 8 := Option.some.inj ((show Tryd.prog.funcNamed "filigree/filigreelaw24.CutsMerge" = some 8 by kernel_rfl).symm.trans hf) |>.symm
      obtain rfl : fn = Tryd.f8 := (Option.some.inj (Tryd.func8.symm.trans hfn)).symm
      exact ⟨by kernel_rfl, fun j t ht => by
        have hall : (Tryd.f8.params.toList.all fun u => !Tryd.prog.wantsStandIn u) = true := by kernel_rfl
        have hm : t ∈ Tryd.f8.params.toList := by
          have := Array.mem_of_getElem? ht
          simpa using this
        exact (show Tryd.prog.wantsStandIn t = false by simpa using List.all_eq_true.1 hall t hm)⟩)
    (by kernel_rfl)
#print axioms cutsMergeCard_holds
end Go.Proofs.YtkhlllbceceikaaDoor
