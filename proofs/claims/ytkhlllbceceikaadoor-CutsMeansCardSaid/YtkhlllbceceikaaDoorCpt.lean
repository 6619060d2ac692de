/- slices.Compact at []int. -/
import Derived.Test.YtkhlllbceceikaaDoorCptP
import Derived.Test.YtkhlllbceceikaaDoorStill
namespace Go.Proofs.YtkhlllbceceikaaDoor
open Go.RowKit
set_option linter.unusedVariables false
set_option linter.unusedSimpArgs false

def CptOut (base : Nat) (A : Option Addr) (c : Nat) (L : List Int) (w : World) (r : Ending) (w' : World) : Prop :=
  r = .returned (.slice A (cpt id L).length c) ∧ w'.ownsRow base 3 1 (.slice A (cpt id L).length c) (cpt id L).length (ints (cpt id L)) ∧ Below base w w'
theorem cpt_same {L : List Int} (h : ∀ j, 0 < j → j < L.length → L.getD j 0 ≠ L.getD (j - 1) 0) : cpt id L = L := by
  unfold cpt
  rw [cptTo_all (f := id) (L := L) L.length (Nat.le_refl _) (fun j h1 h2 => h j h1 h2), List.take_length]
theorem below_on {base : Nat} {a w w' : World} (h : Below base a w) (k : Below w.heap.size w w') (hs : base ≤ w.heap.size) : Below base a w' :=
  ⟨k.os.trans h.os, k.tape.trans h.tape, k.output.trans h.output, Nat.le_trans h.size k.size, fun i hi => (k.block i (by omega)).trans (h.block i hi)⟩
theorem below_low {base : Nat} {w w' : World} (hb : base ≤ w.heap.size) (h : Below w.heap.size w w') : Below base w w' := ⟨h.os, h.tape, h.output, h.size, fun k hk => h.block k (by omega)⟩
/-- what is left when the rest has been cleared -/
theorem CptM.own {w : World} {g : Nat} {t : TypeId} {O : List Value} {sz : Nat} {P : List Value} {m c k base : Nat} (h : CptM w g t O sz P m) (zs : List Value) (hk : P.length = k * sz) (hz : k * sz + zs.length ≤ O.length) (hO : O.length = c * sz) (hc : k ≤ c) (hcm : c ≤ maxLen) (hb : base ≤ g) : (w.setCells g (k * sz) zs).ownsRow base t sz (.slice (some ⟨g, 0, none⟩) k c) k P := by
  obtain ⟨cur, h1, h2, h3, h4⟩ := h
  have h5 := Blk.setCells zs cur (k * sz) h1 (by omega)
  refine ⟨hk, .inr ⟨g, c, _, rfl, hb, h5, hc, hcm, by simp; omega, ?_⟩⟩
  simp only [List.append_assoc]
  rw [← hk, h3, List.take_append_of_le_length (by omega), List.take_length]
theorem own_take {w : World} {base : Nat} {e : TypeId} {size n c m : Nat} {A : Option Addr} {xs ys : List Value} (h : w.ownsRow base e size (.slice A n c) n xs) (hm : m ≤ n) (hy : ys = xs.take (m * size)) (h0 : n = 0 → ys = [] ∧ m = 0) : w.ownsRow base e size (.slice A m c) m ys := by
  have hlx := h.1
  have hle := Nat.mul_le_mul_right size hm
  rcases h.2 with ⟨hv, hz⟩ | ⟨g, cap, cur, hv, hb, hh, h1, h2, h3, h4⟩
  · injection hv with e1 e2 e3
    subst e1 e2 e3
    obtain ⟨rfl, rfl⟩ := h0 rfl
    exact World.ownsRow_nil _ _ _ _
  · injection hv with e1 e2 e3
    subst e1 e3
    refine ⟨by rw [hy, List.length_take]; omega, .inr ⟨g, c, cur, rfl, hb, hh, by omega, h2, h3, ?_⟩⟩
    rw [hy, ← h4, List.take_take, Nat.min_eq_left (by omega)]
set_option maxRecDepth 100000 in
set_option maxHeartbeats 4000000 in
theorem compact_any (w : World) (base : Nat) (A : Option Addr) (n c : Nat) (L : List Int) (ho : w.ownsRow base 3 1 (.slice A n c) n (ints L)) (hb : base ≤ w.heap.size) (hn : n ≤ 1000000) :
    Calls Tryd.prog 41 #[.slice A n c] w (CptOut base A c L w) := by
  have hl : L.length = n := by have := ho.1; rw [ints_length] at this; omega
  have HO := Lib.hid ho
  have HL := Lib.hid hl
  have hsame : (∀ j, 0 < j → j < n → L.getD j 0 ≠ L.getD (j - 1) 0) → ∀ w', Below w.heap.size w w' → CptOut base A c L w (.returned (.slice A n c)) w' := fun h w' hw => by
    unfold CptOut
    rw [cpt_same (by rw [hl]; exact h), hl]
    exact ⟨rfl, own_keep ho hw, below_low hb hw⟩
  have HS := Lib.hid hsame
  have hrd := Rd.of_own ho
  have HR := Lib.hid hrd
  have hnc := hrd.cap
  by_cases h2 : n < 2
  · have h2' : (n : Int) < 2 := by omega
    clear ho hsame hrd hl
    go_enter Tryd.func41, Tryd.ntmps41
    go_wp2_with fail
    go_ret
    exact HS.out (fun j h1 h2 => by omega) _ (Below.refl _ _)
  obtain ⟨g, hA, hgb, hgl⟩ := own_some ho (by omega)
  subst hA
  obtain ⟨O, hO, hOt, hcs, hcm⟩ : ∃ O : List Value, Blk w g 3 O.toArray ∧ O.take n = ints L ∧ O.length = c ∧ c ≤ maxLen := by
    rcases ho.2 with ⟨hv, hz⟩ | ⟨g', cap, cur, hv, hg', hh, h1, h2, h3, h4⟩
    · omega
    · injection hv with e1 e2 e3
      injection e1 with e1
      injection e1 with e1
      subst e1 e3
      refine ⟨cur.toList, ?_, by simpa using h4, by simpa using h3, h2⟩
      simpa using (show Blk w g 3 cur from hh)
  have HOB := Lib.hid hO
  have HOT := Lib.hid hOt
  have hg63 : c ≤ 9223372036854775807 := by unfold maxLen at hcm; omega
  have HCM := Lib.hid hcm
  have h2' : ¬ (n : Int) < 2 := by omega
  have hOget : ∀ j, j < n → O[j]? = some (.int .i64 (L.getD j 0)) := fun j hj => by
    have h := congrArg (fun l : List Value => l[j]?) hOt
    simp only [List.getElem?_take_of_lt hj] at h
    rw [h, ints, List.getElem?_map, List.getElem?_eq_getElem (by omega), List.getD_eq_getElem?_getD, List.getElem?_eq_getElem (by omega)]
    rfl
  have HG := Lib.hid hOget
  clear ho hsame hrd hl hO hOt hcm hOget
  go_enter Tryd.func41, Tryd.ntmps41
  go_wp2_with fail
  go_loopw [3] (fun i wx => ∃ k : Nat, 1 ≤ k ∧ k ≤ n ∧ i = .int .i64 (k : Int) ∧ (∀ j, 0 < j → j < k → L.getD j 0 ≠ L.getD (j - 1) 0) ∧ Below w.heap.size w wx) (fun i _ => n - (intOf i).toNat)
  case atStart => exact ⟨1, by omega, by omega, rfl, fun j h1 h2 => absurd h2 (by omega), Below.refl _ _⟩
  case round =>
    obtain ⟨k, hk1, hk, rfl, hdis, hB⟩ := hrel
    have B1 := Lib.hid hB
    have HD := Lib.hid hdis
    clear hB hdis
    by_cases hlt : k < n
    case neg =>
      obtain rfl : k = n := by omega
      go_wp2_with fail
      go_ret
      exact HS.out HD.out _ B1.out
    have hlt' : (k : Int) < (n : Int) := by omega
    obtain ⟨k0, hk0⟩ : ∃ q, k - 1 = q := ⟨_, rfl⟩
    have hk0' : (k : Int) - 1 = (k0 : Int) := by omega
    have hkw : IntKind.i64.wrap (k0 : Int) = (k0 : Int) := IntWalk.i64_in _ (by omega)
    have hk0n : (k0 : Int) < (n : Int) := by omega
    have d0 : wr.cell? ⟨g, k, none⟩ = some (.int .i64 (L.getD k 0)) := (B1.out.cell hgl).trans ((HOB.out.cell k).trans (by simpa using HG.out k hlt))
    have d1 : wr.cell? ⟨g, k0, none⟩ = some (.int .i64 (L.getD k0 0)) := (B1.out.cell hgl).trans ((HOB.out.cell k0).trans (by simpa using HG.out k0 (by omega)))
    have HEQ := Lib.hid (show L.getD k 0 = L.getD k0 0 → L.getD k 0 = L.getD (k - 1) 0 by rw [hk0]; exact id)
    have HNE := Lib.hid (show L.getD k 0 ≠ L.getD k0 0 → ∀ j, 0 < j → j < k + 1 → L.getD j 0 ≠ L.getD (j - 1) 0 from fun h j h1 h2 => by
      rcases Nat.lt_or_ge j k with h3 | h3
      · exact HD.out j h1 h3
      · obtain rfl : j = k := by omega
        rw [hk0]; exact h)
    by_cases hxy : L.getD k 0 = L.getD k0 0
    case neg =>
      have HNX := Lib.hid (HNE.out hxy)
      clear HNE HEQ
      generalize L.getD k 0 = x at d0 hxy
      generalize L.getD k0 0 = y at d1 hxy
      have hdx : (x == y) = false := by simp [hxy]
      go_wp2_with fail
      refine wp_region_still_in (by kernel_rfl) (by kernel_rfl) fun St9 ne9 V9 hV9 hS9 => ?_
      have qd0 := still_cell hV9 d0
      have qd1 := still_cell hV9 d1
      repeat (first | go_big_quiet_step (fail) | quiet_step (fail))
      refine wpQuiet_nil ?_
      intro _ hw9
      obtain ⟨s9, rfl⟩ := hw9
      have hb9 := hV9 s9
      clear qd0 qd1 hS9
      generalize V9 s9 = w9 at hb9 ⊢
      clear hV9 s9 V9 ne9 St9
      have B9 := Lib.hid (below_then B1.out hb9)
      clear hb9 d0 d1
      go_wp2_with fail
      go_roundw
      case rel => exact ⟨k + 1, by omega, by omega, by go_num, HNX.out, B9.out⟩
      case measure => simp [intOf]; omega
    have HQ := Lib.hid (HEQ.out hxy)
    rw [← hxy] at d1
    clear HNE HEQ hxy
    generalize L.getD k 0 = x at d0 d1
    go_wp2_with fail
    refine wp_region_still_in (by kernel_rfl) (by kernel_rfl) fun St9 ne9 V9 hV9 hS9 => ?_
    have qd0 := still_cell hV9 d0
    have qd1 := still_cell hV9 d1
    repeat (first | go_big_quiet_step (fail) | quiet_step (fail))
    refine wpQuiet_nil ?_
    intro _ hw9
    obtain ⟨s9, rfl⟩ := hw9
    have hb9 := hV9 s9
    clear qd0 qd1 hS9
    generalize V9 s9 = w9 at hb9 ⊢
    clear hV9 s9 V9 ne9 St9
    have B9 := Lib.hid (below_then B1.out hb9)
    clear hb9 d0 d1
    go_wp2_with fail
    have hpre : cptTo id L (k + 1) = L.take k := by
      have h0 : L.getD k default = L.getD (k - 1) default := HQ.out
      rw [cptTo_old (f := id) (by omega) h0, cptTo_all (f := id) k (by rw [HL.out]; omega) (fun j h1 h2 => HD.out j h1 h2)]
    have hst : CptM w9 g 3 O 1 (ints (cptTo id L (k + 1))) (k + 1) := by
      refine CptM.start (HOB.out.keep B9.out) ?_
      rw [hpre, ints_length, List.length_take, Nat.min_eq_left (by rw [HL.out]; omega)]
      have h := congrArg (List.take k) HOT.out
      rw [List.take_take, Nat.min_eq_left (by omega)] at h
      rw [h]; simp [ints, List.map_take]
    have hq0 : (cptTo id L (k + 1)).length = k := by rw [hpre, List.length_take, HL.out, Nat.min_eq_left (by omega)]
    have HST := Lib.hid hst
    have HQ0 := Lib.hid hq0
    clear hpre hst hq0 hk0 hk0' hkw hk0n
    go_loopw [3, 5] (fun v3 v5 wx => ∃ (q e : Nat), 1 ≤ e ∧ k + e ≤ n ∧ q + 1 ≤ k + e ∧ v3 = .int .i64 (q : Int) ∧ v5 = .int .i64 (e : Int) ∧ (cptTo id L (k + e)).length = q ∧ CptM wx g 3 O 1 (ints (cptTo id L (k + e))) (k + e) ∧ Below base w wx) (fun _ v5 _ => n - k - (intOf v5).toNat)
    case atStart => exact ⟨k, 1, by omega, by omega, by omega, rfl, rfl, HQ0.out, HST.out, below_low hb B9.out⟩
    case round =>
      obtain ⟨q, e, he1, hen, hqe, rfl, rfl, hql, hM, hBB⟩ := hrel
      have M3 := Lib.hid hM
      have B3 := Lib.hid hBB
      have HQL := Lib.hid hql
      clear hM hBB hql HST HQ0
      by_cases hend : k + e < n
      case neg =>
        have he2 : k + e = n := by omega
        have hlt3 : ¬ (e : Int) < ((n - k : Nat) : Int) := by omega
        have hsub : ((n - k : Nat) : Int) = (e : Int) := by omega
        have hfin : cpt id L = cptTo id L (k + e) := by unfold cpt; rw [HL.out, he2]
        have HF := Lib.hid hfin
        have hcl : ∀ ty, (Builtin.clear_ #[24] ty #[.slice (some ⟨g, q, none⟩) (n - q) (c - q)]).run Tryd.prog wr = .ok (.tuple #[]) (wr.setCells g q (List.replicate (n - q) (.int .i64 0))) := fun ty => by
          refine Lib.run_clear_slice wr 24 3 ty (.int .i64 0) Tryd.underlying24 (fun w => by kernel_rfl) rfl rfl g q (n - q) (c - q) (by omega) (fun j hj => ?_) (fun j hj => ?_)
          · obtain ⟨v, h1, -⟩ := M3.out.there (i := q + j) (by omega)
            rw [h1]; rfl
          · obtain ⟨v, -, h1⟩ := M3.out.there (i := q + j) (by omega)
            exact h1
        have HOWN := Lib.hid (M3.out.own (k := q) (c := c) (base := base) (List.replicate (n - q) (.int .i64 0)) (by rw [ints_length, HQL.out]; omega) (by simp; omega) (by omega) (by omega) HCM.out hgb)
        have hqn : (q : Int) ≤ (n : Int) := by omega
        have hqc : (q : Int) ≤ (c : Int) := by omega
        clear hfin
        go_wp2_with (simp only [hcl])
        go_ret
        unfold CptOut
        rw [HF.out, HQL.out]
        have h9 := HOWN.out
        rw [Nat.mul_one] at h9
        exact ⟨rfl, h9, (Chg.setCells g _ _ _).below B3.out (Nat.le_trans hb B3.out.size) (fun j hj => by rw [hj]; exact hgb)⟩
      have hlt3 : (e : Int) < ((n - k : Nat) : Int) := by omega
      obtain ⟨e0, he0⟩ : ∃ q, e - 1 = q := ⟨_, rfl⟩
      have he0' : (e : Int) - 1 = (e0 : Int) := by omega
      have hew : IntKind.i64.wrap (e0 : Int) = (e0 : Int) := IntWalk.i64_in _ (by omega)
      have he0n : (e0 : Int) < ((n - k : Nat) : Int) := by omega
      have d0 : wr.cell? ⟨g, k + e, none⟩ = some (.int .i64 (L.getD (k + e) 0)) := (M3.out.cell (i := k + e) (by omega)).trans (HG.out (k + e) hend)
      have d1 : wr.cell? ⟨g, k + e0, none⟩ = some (.int .i64 (L.getD (k + e0) 0)) := (M3.out.cell (i := k + e0) (by omega)).trans (HG.out (k + e0) (by omega))
      have hke0 : k + e - 1 = k + e0 := by omega
      by_cases hxy : L.getD (k + e) 0 = L.getD (k + e0) 0
      · have hsm : cptTo id L (k + (e + 1)) = cptTo id L (k + e) := cptTo_old (f := id) (m := k + e) (by omega) (by rw [hke0]; exact hxy)
        have HSM := Lib.hid hsm
        rw [← hxy] at d1
        clear hsm hxy
        generalize L.getD (k + e) 0 = x at d0 d1
        go_wp2_with fail
        refine wp_region_still_in (by kernel_rfl) (by kernel_rfl) fun St8 ne8 V8 hV8 hS8 => ?_
        have qd0 := still_cell hV8 d0
        have qd1 := still_cell hV8 d1
        repeat (first | go_big_quiet_step (fail) | quiet_step (fail))
        refine wpQuiet_nil ?_
        intro _ hw8
        obtain ⟨s8, rfl⟩ := hw8
        have hb8 := hV8 s8
        clear qd0 qd1 hS8
        generalize V8 s8 = w8 at hb8 ⊢
        clear hV8 s8 V8 ne8 St8
        have BB8 := Lib.hid ((below_on B3.out hb8 (Nat.le_trans hgb (Nat.le_of_lt M3.out.lt))))
        have M8 := Lib.hid ((M3.out.keep hb8).more (show k + e ≤ k + (e + 1) by omega))
        clear hb8 d0 d1
        go_wp2_with fail
        go_roundw
        case rel => exact ⟨q, e + 1, by omega, by omega, by omega, rfl, by go_num, by rw [HSM.out]; exact HQL.out, by rw [HSM.out]; exact M8.out, BB8.out⟩
        case measure => simp [intOf]; omega
      · have hsm : cptTo id L (k + (e + 1)) = cptTo id L (k + e) ++ [L.getD (k + e) 0] := cptTo_new (f := id) (m := k + e) (.inr (by rw [hke0]; exact hxy))
        have HSM := Lib.hid hsm
        generalize L.getD (k + e) 0 = x at d0 hxy HSM
        generalize L.getD (k + e0) 0 = y at d1 hxy
        have hdx : (x == y) = false := by simp [hxy]
        have hdx2 : (x != y) = true := by simp [hxy]
        clear hsm
        go_wp2_with fail
        refine wp_region_still_in (by kernel_rfl) (by kernel_rfl) fun St8 ne8 V8 hV8 hS8 => ?_
        have qd0 := still_cell hV8 d0
        have qd1 := still_cell hV8 d1
        repeat (first | go_big_quiet_step (fail) | quiet_step (fail))
        refine wpQuiet_nil ?_
        intro _ hw8
        obtain ⟨s8, rfl⟩ := hw8
        have hb8 := hV8 s8
        clear qd0 qd1 hS8
        generalize V8 s8 = w8 at hb8 ⊢
        clear hV8 s8 V8 ne8 St8
        have d8 := (hb8.cell (p := ⟨g, k + e, none⟩) M3.out.lt).trans d0
        have BB8 := Lib.hid ((below_on B3.out hb8 (Nat.le_trans hgb (Nat.le_of_lt M3.out.lt))))
        have M8 := Lib.hid (M3.out.keep hb8)
        obtain ⟨v0, f0, f1⟩ := M8.out.there (i := q) (by omega)
        have M9 := M8.out.put [.int .i64 x] rfl (by rw [ints_length, HQL.out]; omega) (by omega)
        have e9 : ints (cptTo id L (k + e)) ++ [.int .i64 x] = ints (cptTo id L (k + (e + 1))) := by rw [HSM.out, ints_append]; rfl
        rw [ints_length, HQL.out, e9] at M9
        have M9' := Lib.hid (show CptM (w8.setCell ⟨g, q, none⟩ (.int .i64 x)) g 3 O 1 (ints (cptTo id L (k + (e + 1)))) (k + (e + 1)) from M9)
        have B9' := Lib.hid (BB8.out.setCell (p := ⟨g, q, none⟩) hgb (.int .i64 x))
        have hqn : (q : Int) < (n : Int) := by omega
        clear hb8 d0 d1 M9 e9
        go_wp2_with fail
        go_roundw
        case rel => exact ⟨q + 1, e + 1, by omega, by omega, by omega, by go_num, by go_num, by rw [HSM.out, List.length_append, HQL.out]; rfl, M9'.out, B9'.out⟩
        case measure => simp [intOf]; omega
end Go.Proofs.YtkhlllbceceikaaDoor
