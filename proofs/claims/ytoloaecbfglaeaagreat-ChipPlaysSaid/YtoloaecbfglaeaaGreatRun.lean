/- Walks of filigree/pack.flops, pack.value. · slices.Clone at []bool; append of so many zeros onto a row of bools of the call's own. · Walk of filigree/pack.Eval: what blocks tell, and keep. · Plain: what blocks tell hangs on no order; what they tell row by row. · Walk of filigree/pack.Run: what blocks tell row by row. · Walks of filigreeref27: SameBools and SameRows of what is alike; FewRows. · Plain: a block that nobody reads says nothing. -/
import Derived.Test.YtoloaecbfglaeaaGreatPchk
import Derived.Test.YtoloaecbfglaeaaGreatBlkW
import Derived.Test.YtoloaecbfglaeaaGreatBchk
import Derived.Lib.AppendZerosOnto
import Derived.Lib.SliceRun
import Derived.Lib.Walk
import Derived.Test.YtoloaecbfglaeaaGreatHeapB
import Derived.Deep.RegionHeld3
import Derived.BigRegion
import Derived.Deep.DeepCutAuto

namespace Go.Proofs.YtoloaecbfglaeaaGreat
open Go.RowKit Topo
set_option linter.unusedVariables false
set_option linter.unusedSimpArgs false

/-- the blocks that have a flop -/
def flopTo (bs : List BL) (k : Nat) : List Nat := (List.range k).filter fun i => ffAt bs i
def PK.flops (P : PK) : List Nat := flopTo P.bs P.bs.length
theorem flopTo_next (bs : List BL) (k : Nat) : flopTo bs (k + 1) = if ffAt bs k = true then flopTo bs k ++ [k] else flopTo bs k := by
  unfold flopTo
  rw [List.range_succ, List.filter_append]
  by_cases h : ffAt bs k = true
  · rw [if_pos h]; simp only [List.filter_cons, List.filter_nil, h, if_true]
  · rw [if_neg h]; simp only [List.filter_cons, List.filter_nil, h, Bool.false_eq_true, if_false, List.append_nil]
theorem flopTo_len (bs : List BL) (k : Nat) : (flopTo bs k).length ≤ k := by
  unfold flopTo
  exact Nat.le_trans (List.length_filter_le _ _) (by simp)
def FlopsOut (P : PK) (w : World) (e : Ending) (w' : World) : Prop :=
  ∃ A c, e = .returned (.slice A P.flops.length c) ∧ Below w.heap.size w w' ∧ w'.ownsRow w.heap.size 3 1 (.slice A P.flops.length c) P.flops.length (ints (natI P.flops))
set_option maxRecDepth 100000 in
set_option maxHeartbeats 4000000 in
theorem flops_any (P : PK) (w : World) (hin : P.In w) (hn : P.bs.length ≤ 100000) : Calls Tryz.prog 68 #[.agg #[.int .i64 P.I, .slice P.AB P.bs.length P.cB, .slice P.AO P.outs.length P.cO]] w (FlopsOut P w) := by
  have T0 := Lib.hid (MW.new w P)
  have HIN := Lib.hid hin
  obtain ⟨AB, hAB⟩ : ∃ AB, P.AB = AB := ⟨_, rfl⟩
  rw [hAB]
  obtain ⟨i0, hi0, hz0, hz1, hz2⟩ := info_parts int_info
  have HI0 := Lib.hid hi0
  have HZ0 := Lib.hid hz0
  have HZ1 := Lib.hid hz1
  have HZ2 := Lib.hid hz2
  have HAB := Lib.hid hAB
  have Q0 := Lib.hid (below_new w (.cells #[.int .i64 P.I, .slice AB P.bs.length P.cB, .slice P.AO P.outs.length P.cO] 33))
  clear hi0 hz0 hz1 hz2 hAB hin
  go_enter Tryz.func68, Tryz.ntmps68
  go_wp2_with fail
  go_loopw [2, 8] (fun v2 v8 wx => ∃ (k : Nat) (A : Option Addr) (c : Nat), k ≤ P.bs.length ∧ v8 = .int .i64 (k : Int) ∧ v2 = .slice A (flopTo P.bs k).length c ∧ Below w.heap.size w wx ∧ w.heap.size < wx.heap.size ∧ wx.ownsRow w.heap.size 3 1 (.slice A (flopTo P.bs k).length c) (flopTo P.bs k).length (ints (natI (flopTo P.bs k)))) (fun _ v8 _ => P.bs.length - (intOf v8).toNat)
  case atStart => exact ⟨0, none, 0, by omega, rfl, rfl, Q0.out, by simp, World.ownsRow_nil _ _ _ _⟩
  case round =>
    obtain ⟨k, A, c, hk, rfl, rfl, hB, hlw, hO⟩ := hrel
    have B1 := Lib.hid hB
    have O1 := Lib.hid hO
    have hfl := flopTo_len P.bs k
    clear hB hO
    by_cases hlt : k < P.bs.length
    case neg =>
      obtain rfl : k = P.bs.length := by omega
      go_wp2_with fail
      go_ret
      exact ⟨A, c, rfl, B1.out, O1.out⟩
    obtain ⟨a, hA, hab, c0, c1, c2, c3⟩ := (HIN.out.blocks.later B1.out).block hlt
    rw [HAB.out] at hA
    subst hA
    have hff := ffAt_get hlt
    have hnx := flopTo_next P.bs k
    rw [hff] at hnx
    have HNX := Lib.hid hnx
    clear hff hnx
    generalize P.bs[k] = b at c0 c1 c2 c3 HNX
    obtain ⟨bA, bc, bl, bt, bff, bit⟩ := b
    simp only at c0 c1 c2 c3 HNX
    have hbn := below_new wr (.cells #[.slice bA bl.length bc, .int .i64 bt, .bool bff, .bool bit] 67)
    have B2 := Lib.hid (below_then B1.out hbn)
    have O2 := Lib.hid (own_keep O1.out hbn)
    generalize flopTo P.bs k = F at O1 O2 HNX hfl
    cases bff with
    | false =>
      have h1 := HNX.out
      rw [if_neg (by simp)] at h1
      have H1 := Lib.hid h1
      clear h1 hbn
      go_wp2_with fail
      go_roundw
      case rel => exact ⟨k + 1, A, c, by omega, by go_num, by rw [H1.out], B2.out, by simp; omega, by rw [H1.out]; exact O2.out⟩
      case measure => simp [intOf]; omega
    | true =>
      have h1 := HNX.out
      rw [if_pos rfl] at h1
      have H1 := Lib.hid h1
      have O3 := Lib.hid (O2.out.alloc (.cells #[.int .i64 (k : Int)] 3))
      have B3 := Lib.hid (below_then B2.out (below_new _ (.cells #[.int .i64 (k : Int)] 3)))
      clear h1 hbn
      go_wp2_with (at_builtin; refine wpList_append_own_at _ rfl (.tmp 15) (.tmp 17) 26 rfl w.heap.size 3 i0 (.int .i64 0) 1 8 Tryz.underlying26 HI0.out HZ0.out HZ1.out HZ2.out rfl (by decide) (.slice A F.length c) F.length (ints (natI F)) rfl O3.out ⟨wr.heap.size + 1, 0, none⟩ 1 1 [.int .i64 (k : Int)] rfl rfl ?c1 ?c2 ?c3 ?c4 ?c5 ?_)
      (try (case c1 => have := new_cells (wr.alloc (.cells #[.slice bA bl.length bc, .int .i64 bt, .bool true, .bool bit] 67)) 3 [.int .i64 (k : Int)]; rw [World.size_alloc] at this; exact this))
      case c2 => first | rfl | (intro u hu; simp at hu; rcases hu with rfl; rfl)
      case c3 => unfold maxLen; omega
      case c4 => omega
      case c5 => first | omega | (simp; omega)
      intro v' w9 hown9 hg9 hnil9 hat9
      obtain ⟨qB, qd, rfl⟩ := own_slice hown9
      have B9 := Lib.hid (B3.out.grown hg9 (by simp; omega) (fun k hk => own_base O3.out hk))
      have O9 := Lib.hid hown9
      have hz9 := hg9.size
      simp only [World.size_alloc] at hz9
      clear hown9 hg9 hnil9 hat9 O3 B3
      go_wp2_with fail
      go_roundw
      case rel => exact ⟨k + 1, qB, qd, by omega, by go_num, by rw [H1.out]; simp, B9.out, by omega, by rw [H1.out]; simpa [natI, ints] using O9.out⟩
      case measure => simp [intOf]; omega

/-- which bit of its table a block's inputs pick -/
def atV (l : List Int) (W : List Bool) : Nat → Nat
  | 0 => 0
  | k + 1 => atV l W k + if W.getD (l.getD k 0).toNat false = true then 2 ^ k else 0
theorem atV_lt (l : List Int) (W : List Bool) : ∀ k, atV l W k < 2 ^ k
  | 0 => by simp [atV]
  | k + 1 => by
    have := atV_lt l W k
    simp only [atV, Nat.pow_succ]
    split <;> omega
def valB (l : List Int) (t : Nat) (W : List Bool) : Bool := decide (t / 2 ^ atV l W l.length % 2 = 1)
def ValOut (r : Bool) (w : World) (e : Ending) (w' : World) : Prop := e = .returned (.bool r) ∧ Below w.heap.size w w'
set_option maxRecDepth 100000 in
set_option maxHeartbeats 4000000 in
theorem value_any (A : Option Addr) (c : Nat) (l : List Int) (t : Nat) (ff it : Bool) (WA : Option Addr) (n cW : Nat) (W : List Bool) (w : World) (hr : Rd w 1 A l.length c (ints l)) (hW : Rd w 1 WA n cW (bools W)) (hl : l.length ≤ 4) (hx : ∀ x ∈ l, 0 ≤ x ∧ x < (n : Int)) (ht : t ≤ 65536) (hn : n ≤ 100000000) :
    Calls Tryz.prog 70 #[.agg #[.slice A l.length c, .int .i64 (t : Int), .bool ff, .bool it], .slice WA n cW] w (ValOut (valB l t W) w) := by
  have hb := below_new w (.cells #[.slice A l.length c, .int .i64 (t : Int), .bool ff, .bool it] 67)
  have Q0 := Lib.hid hb
  have R0 := Lib.hid (hr.later hb)
  have W0 := Lib.hid (hW.later hb)
  have X0 := Lib.hid (Blk.made w 67 #[.slice A l.length c, .int .i64 (t : Int), .bool ff, .bool it])
  have HX := Lib.hid hx
  have HAT := Lib.hid (fun k => atV_lt l W k)
  obtain ⟨r, hrr⟩ : ∃ r, valB l t W = r := ⟨_, rfl⟩
  rw [hrr]
  have HR := Lib.hid hrr
  clear hb hr hW hx hrr
  go_enter Tryz.func70, Tryz.ntmps70
  go_wp2_with fail
  generalize w.alloc (.cells #[.slice A l.length c, .int .i64 (t : Int), .bool ff, .bool it] 67) = w1 at Q0 R0 W0 X0 ⊢
  go_loop [5, 11] (fun v5 v11 => ∃ k : Nat, k ≤ l.length ∧ v11 = .int .i64 (k : Int) ∧ v5 = .int .i64 (atV l W k : Int)) (fun _ v11 => l.length - (intOf v11).toNat)
  case atStart => exact ⟨0, by omega, rfl, rfl⟩
  case round =>
    obtain ⟨k, hk, rfl, rfl⟩ := hrel
    have hat := HAT.out k
    by_cases hlt : k < l.length
    case neg =>
      obtain rfl : k = l.length := by omega
      have h16 : 2 ^ l.length ≤ 2 ^ 4 := Nat.pow_le_pow_right (by omega) hl
      have hbt := bit_on t (atV l W l.length) (by omega) (by omega)
      obtain ⟨p, hp⟩ : ∃ p, 2 ^ atV l W l.length = p := ⟨_, rfl⟩
      have hp1 : 1 ≤ p := by rw [← hp]; exact Nat.two_pow_pos _
      have hp2 : p ≤ 65536 := by rw [← hp]; exact Nat.pow_le_pow_right (n := 2) (j := 16) (by omega) (by omega)
      have hsp := pow_nat hp
      have hv : r = decide (t / p % 2 = 1) := by rw [← HR.out, ← hp]; rfl
      rw [hp] at hbt
      have HV := Lib.hid hv
      have hb01 : t / p % 2 = 0 ∨ t / p % 2 = 1 := by omega
      have hne : ((p : Int) != 0) = true := by rw [bne_iff_ne]; omega
      have k1 := X0.out.cell 1
      have ha16 : atV l W l.length < 16 := by omega
      generalize atV l W l.length = av at hsp hbt ha16
      clear hv hp hat
      rcases hb01 with h01 | h01
      · rw [h01, Nat.zero_mul] at hbt
        have hr := HV.out
        rw [h01] at hr
        have HR2 := Lib.hid hr
        clear hr h01
        go_wp2_with fail
        go_quiet (fail)
        go_wp2_with fail
        go_ret
        exact ⟨by rw [HR2.out]; rfl, below_drewN Q0.out _⟩
      · rw [h01, Nat.one_mul] at hbt
        have hr := HV.out
        rw [h01] at hr
        have HR2 := Lib.hid hr
        clear hr h01
        go_wp2_with fail
        go_quiet (fail)
        go_wp2_with fail
        go_ret
        exact ⟨by rw [HR2.out]; rfl, below_drewN Q0.out _⟩
    obtain ⟨a, hA, -, cx⟩ := R0.out.int hlt
    subst hA
    have hg : l.getD k 0 = l[k] := by rw [List.getD_eq_getElem?_getD, List.getElem?_eq_getElem hlt]; rfl
    obtain ⟨hx0, hx1⟩ := HX.out l[k] (List.getElem_mem hlt)
    have hnx : atV l W (k + 1) = atV l W k + if W.getD (l.getD k 0).toNat false = true then 2 ^ k else 0 := rfl
    rw [hg] at cx hnx
    clear hg
    generalize l[k] = x at cx hx0 hx1 hnx
    obtain ⟨X, rfl⟩ := Int.eq_ofNat_of_zero_le hx0
    rw [Int.toNat_natCast] at hnx
    obtain ⟨aW, hAW, -, cw⟩ := W0.out.bool (k := X) (by omega)
    subst hAW
    have hor := bit_set (atV l W k) k hat (by omega)
    obtain ⟨p, hp⟩ : ∃ p, 2 ^ k = p := ⟨_, rfl⟩
    have hp2 : p ≤ 16 := by rw [← hp]; exact Nat.pow_le_pow_right (n := 2) (j := 4) (by omega) (by omega)
    have hsp := pow_nat hp
    rw [hp] at hor hnx hat
    have ha16 : atV l W k < 16 := by omega
    generalize atV l W k = av at hor hnx ha16 hat
    have HNX := Lib.hid hnx
    clear hnx hp
    cases hb : W.getD X false with
    | false =>
      have h1 := HNX.out
      rw [hb, if_neg (by simp)] at h1
      have H1 := Lib.hid h1
      rw [hb] at cw
      clear h1 hb
      go_wp2_with fail
      go_round
      case rel => exact ⟨k + 1, by omega, by go_num, by rw [H1.out]; go_num⟩
      case measure => simp [intOf]; omega
    | true =>
      have h1 := HNX.out
      rw [hb, if_pos rfl] at h1
      have H1 := Lib.hid h1
      rw [hb] at cw
      clear h1 hb
      go_wp2_with fail
      go_round
      case rel => exact ⟨k + 1, by omega, by go_num, by rw [H1.out]; go_num⟩
      case measure => simp [intOf]; omega
end Go.Proofs.YtoloaecbfglaeaaGreat

namespace Go.Proofs.YtoloaecbfglaeaaGreat
open Go.RowKit
set_option linter.unusedVariables false
set_option linter.unusedSimpArgs false

def ClonedB (n : Nat) (l : List Bool) (w : World) (e : Ending) (w' : World) : Prop := ∃ A c, e = .returned (.slice A n c) ∧ Below w.heap.size w w' ∧ w'.ownsRow w.heap.size 4 1 (.slice A n c) n (bools l)
set_option maxRecDepth 100000 in
set_option maxHeartbeats 1000000 in
theorem clone_bools (w : World) (A : Option Addr) (n c : Nat) (l : List Bool) (hr : Rd w 1 A n c (bools l)) (hn : n ≤ 1000000) :
    Calls Tryz.prog 69 #[.slice A n c] w (ClonedB n l w) := by
  cases A with
  | none =>
    have hc : c = 0 := hr.nil rfl
    have hn0 : n = 0 := by have := hr.cap; omega
    subst hc hn0
    have hl : l = [] := List.eq_nil_of_length_eq_zero (by have := hr.len; rw [bools_length] at this; omega)
    subst hl
    have hq : ∀ (w : World), (binOp .eql 25 (.slice none 0 0) (.slice none 0 0)).run Tryz.prog w = .ok (.bool true) w := fun _ => by kernel_rfl
    clear hr
    go_enter Tryz.func69, Tryz.ntmps69
    go_wp2_with fail
    go_ret
    exact ⟨none, 0, rfl, Below.refl _ _, World.ownsRow_nil _ _ _ _⟩
  | some a =>
    have hq : ∀ (w : World), (binOp .eql 25 (.slice (some a) n c) (.slice none 0 0)).run Tryz.prog w = .ok (.bool false) w := fun w => Lib.run_eql_slice_nil w 25 4 a n c 0 0 Tryz.underlying25
    have R1 := Lib.hid (hr.later (below_new w (.cells #[] 4)))
    have O1 := Lib.hid (World.ownsRow_made (base := w.heap.size) (e := 4) (size := 1) w #[] 0 (Nat.le_refl _) (Nat.zero_le _) rfl)
    clear hr
    go_enter Tryz.func69, Tryz.ntmps69
    go_wp2_with (at_builtin; refine wpList_app_bools rfl (.tmp 5) (.tmp 6) rfl w.heap.size (some ⟨w.heap.size, 0, none⟩) 0 0 [] rfl O1.out (some a) n c l rfl R1.out (by omega) (by simp) ?_)
    intro A7 c7 w7 O7 g7
    have B7 := Lib.hid ((below_new w (.cells #[] 4)).grown g7 (by simp) (fun k hk => by have := own_base O1.out hk; simpa using this))
    have O7' := Lib.hid O7
    clear O7 g7 O1 R1
    go_wp2_with fail
    go_ret
    exact ⟨A7, c7, by simp, B7.out, by simpa using O7'.out⟩

theorem zeros_false (k : Nat) : Builtin.zeroCells (Value.bool false).cells k = (List.replicate k (Value.bool false)).toArray := by
  apply Array.ext'
  simp only [Builtin.zeroCells, Value.cells]
  apply List.ext_getElem <;> simp [Nat.mod_one]
theorem append_falses {base n c : Nat} {A : Option Addr} {L : List Bool} {w : World} (hown : w.ownsRow base 4 1 (.slice A n c) n (bools L)) (k : Nat) (hb : n + k ≤ 1000000) (hbase : base ≤ w.heap.size) (ty : TypeId) :
    ∃ A' c' w', (Builtin.append_ #[25, 3] ty #[.slice A n c, .int .i64 (k : Int)]).run Tryz.prog w = .ok (.slice A' (n + k) c') w' ∧ w'.ownsRow base 4 1 (.slice A' (n + k) c') (n + k) (bools (L ++ List.replicate k false)) ∧ w.grownBy w' (Value.slice A n c).ownBlock := by
  obtain ⟨i0, hi0, hz0, hz1, hz2⟩ := info_parts bool_zero
  have hbs : bools (L ++ List.replicate k false) = bools L ++ List.replicate k (Value.bool false) := by simp [bools]
  have hlen : (bools L).length = n := by have := hown.1; omega
  have hwk : IntKind.i64.wrap (k : Int) = k := IntWalk.i64_in _ (by omega)
  rw [hbs]
  by_cases hroom : n + k ≤ c
  · rcases hown.2 with ⟨hv, hn⟩ | ⟨g, cap, cur, hv, hgb, hg, hnc, hcm, hcs, htk⟩
    · injection hv with h1 h2 h3
      subst h1 h3
      have hk : k = 0 := by omega
      subst hk hn
      refine ⟨none, 0, w, ?_, ?_, ⟨rfl, rfl, rfl, Nat.le_refl _, fun _ _ _ => rfl⟩⟩
      · kernel_rfl
      · have : bools L = [] := List.eq_nil_of_length_eq_zero hlen
        rw [this]
        exact World.ownsRow_nil _ _ _ _
    · injection hv with h1 h2 h3
      subst h1 h3
      have hst := run_storeCells_at Tryz.prog g (n * 1) 4 (List.replicate k (Value.bool false)) 0 cur w hg (by simp; omega) (by intro u hu; rw [(List.mem_replicate.1 hu).2]; rfl)
      refine ⟨some ⟨g, 0, none⟩, c, _, ?_, ⟨by simp [hlen], .inr ⟨g, c, (cur.toList.take (n * 1 + 0) ++ List.replicate k (Value.bool false) ++ cur.toList.drop (n * 1 + 0 + (List.replicate k (Value.bool false)).length)).toArray, rfl, hgb, setRow_heap w g cur _ 4 _ hg, hroom, hcm, ?_, ?_⟩⟩, ⟨rfl, rfl, rfl, by simp, fun j _ hj => setRow_other w g j _ (fun e => hj (by rw [e]; rfl))⟩⟩
      · have hzf := zeros_false k
        have happ : (if ¬ (k * 1 = 0) then (Builtin.zeroCells (Value.bool false).cells k) else #[]) = (List.replicate k (Value.bool false)).toArray := by
          by_cases hk : k = 0
          · subst hk; rfl
          · rw [if_pos (by omega), hzf]
        have hneg : ¬ ((k : Int) < 0) := by omega
        have hw0 : IntKind.i64.wrap 0 = 0 := IntWalk.i64_in 0 (by omega)
        have h48i : ¬ (281474976710656 < (k : Int)) := by omega
        have hadd : (⟨g, 0, none⟩ : Addr).add n = ⟨g, n * 1, none⟩ := by rw [Addr.add_lit]; simp
        by_cases hk : k = 0
        · subst hk
          simp only [List.replicate_zero] at hst ⊢
          simp [Builtin.append_, run_underlying Tryz.underlying25, run_underlying Tryz.underlying3, sizeOf, typeInfo, zeroValue, hi0, hz0, hz1, hz2, asInt, asIntOf, hw0, hadd] at hst ⊢
          rw [if_pos (by omega)]
          simp [hst]
        · simp [Builtin.append_, run_underlying Tryz.underlying25, run_underlying Tryz.underlying3, sizeOf, typeInfo, zeroValue, hi0, hz0, hz1, hz2, asInt, asIntOf, hwk, hroom, hadd, hneg, h48i, hk, hzf] at hst ⊢
          simp [hst]
      · simp; omega
      · have h1 : (cur.toList.take n) = bools L := by simpa using htk
        simp only [Nat.mul_one, Nat.add_zero, List.toList_toArray, h1]
        rw [List.take_append_of_le_length (by simp [hlen])]
        rw [List.take_of_length_le (by simp [hlen])]
  · rcases hown.2 with ⟨hv, hn⟩ | ⟨g, cap, cur, hv, hgb, hg, hnc, hcm, hcs, htk⟩
    · injection hv with h1 h2 h3
      subst h1 h3 hn
      have hL : bools L = [] := List.eq_nil_of_length_eq_zero hlen
      have hk : 0 < k := by omega
      have hold : (Builtin.firstCells i0.size 0 (.slice none 0 0)).run Tryz.prog w.drew = .ok ([] : List Value).toArray w.drew := run_firstCells_none w.drew i0.size 0 0 0
      have hrun := Lib.run_append_grow_zeros w 25 3 ty 4 i0 (.bool false) .i64 .i64 Tryz.underlying25 Tryz.underlying3 hi0 hz0 none 0 0 [] hold k hk (by rw [hz1]; omega) (by omega) (by omega) (by rw [hz2]; omega) (growslice_fits (by omega) (by rw [hz2]; omega))
      have hG := grownCap_ge w (0 + k) 0 4
      have hG2 := grownCap_le_maxLen w (0 + k) 0 4 (by unfold maxLen; omega)
      generalize grownCap w (0 + k) 0 4 = G at hrun hG hG2
      refine ⟨_, _, _, hrun, ⟨by rw [hL]; simp, .inr ⟨w.heap.size, G, _, rfl, hbase, heap_alloc_new w.drew _, hG, hG2, ?_, ?_⟩⟩, ⟨rfl, rfl, rfl, by simp, fun j hj _ => Below.heap_alloc w.drew _ j hj⟩⟩
      · simp [Builtin.zeroCells, Value.cells]; omega
      · rw [hL, zeros_false, zeros_false]
        simp
    · injection hv with h1 h2 h3
      subst h1 h3
      have hk : 0 < k := by omega
      have hcells : ∀ j u, (bools L)[j]? = some u → w.drew.cell? ((⟨g, 0, none⟩ : Addr).add j) = some u := hown.cells (g := g) rfl
      have hold : (Builtin.firstCells i0.size n (.slice (some ⟨g, 0, none⟩) n c)).run Tryz.prog w.drew = .ok (bools L).toArray w.drew := run_firstCells_some w.drew i0.size n ⟨g, 0, none⟩ n c (bools L) (by rw [hz1]; omega) hcells
      have hrun := Lib.run_append_grow_zeros w 25 3 ty 4 i0 (.bool false) .i64 .i64 Tryz.underlying25 Tryz.underlying3 hi0 hz0 (some ⟨g, 0, none⟩) n c (bools L) hold k hk (by rw [hz1]; omega) (by omega) (by omega) (by rw [hz2]; omega) (growslice_fits (by omega) (by rw [hz2]; omega))
      have hG := grownCap_ge w (n + k) c 4
      have hG2 := grownCap_le_maxLen w (n + k) c 4 (by unfold maxLen; omega)
      generalize grownCap w (n + k) c 4 = G at hrun hG hG2
      refine ⟨_, _, _, hrun, ⟨by simp [hlen], .inr ⟨w.heap.size, G, _, rfl, hbase, heap_alloc_new w.drew _, hG, hG2, ?_, ?_⟩⟩, ⟨rfl, rfl, rfl, by simp, fun j hj _ => Below.heap_alloc w.drew _ j hj⟩⟩
      · simp [Builtin.zeroCells, Value.cells, hlen]; omega
      · rw [zeros_false, zeros_false]
        simp only [Nat.mul_one, List.append_toArray]
        rw [List.take_append_of_le_length (by simp [hlen]), List.take_of_length_le (by simp [hlen])]
end Go.Proofs.YtoloaecbfglaeaaGreat

namespace Go.Proofs.YtoloaecbfglaeaaGreat
open Go.RowKit Topo
set_option linter.unusedVariables false
set_option linter.unusedSimpArgs false

def tAt (bs : List BL) (k : Nat) : Int := match bs[k]? with | some b => b.t | none => 0
theorem tAt_get {bs : List BL} {k : Nat} (h : k < bs.length) : tAt bs k = bs[k].t := by unfold tAt; rw [List.getElem?_eq_getElem h]
def PK.val (P : PK) (i : Nat) (W : List Bool) : Bool := valB (inL P.bs i) (tAt P.bs i).toNat W
/-- the wires when the first k flops have theirs -/
def stTo (I : Nat) (kept : List Nat) (st W : List Bool) : Nat → List Bool
  | 0 => W
  | k + 1 => (stTo I kept st W k).set (I + kept.getD k 0) (st.getD k false)
theorem stTo_length (I : Nat) (kept : List Nat) (st W : List Bool) : ∀ k, (stTo I kept st W k).length = W.length
  | 0 => rfl
  | k + 1 => by simp only [stTo, List.length_set]; exact stTo_length I kept st W k
/-- the wires at first -/
def PK.w1 (P : PK) (li ls : List Bool) : List Bool := stTo P.I.toNat P.flops ls (li ++ List.replicate P.bs.length false) P.flops.length
/-- the wires at the end -/
def PK.w2 (P : PK) (O : List Nat) (li ls : List Bool) : List Bool := runL P.val P.I.toNat O (P.w1 li ls)
def EvalR (P : PK) (li ls o nx : List Bool) (x : Int) : Prop :=
  (ChkR P x ∧ x ≠ 0 ∧ o = [] ∧ nx = []) ∨ (ChkR P 0 ∧ ((li.length : Int) ≠ P.I ∨ ls.length ≠ P.flops.length) ∧ x = 1 ∧ o = [] ∧ nx = []) ∨
  (x = 0 ∧ P.may ∧ (li.length : Int) = P.I ∧ ls.length = P.flops.length ∧ ∃ O, All (depE P.E) P.S O ∧ o = P.outs.map (fun n => (P.w2 O li ls).getD n.toNat false) ∧ nx = P.flops.map (fun i => P.val i (P.w2 O li ls)))
def EvalOut (P : PK) (li ls : List Bool) (w : World) (e : Ending) (w' : World) : Prop :=
  ∃ A c o A2 c2 nx x, e = .returned (.tuple #[.slice A o.length c, .slice A2 nx.length c2, .int .i64 x]) ∧ Below w.heap.size w w' ∧ w'.ownsRow w.heap.size 4 1 (.slice A o.length c) o.length (bools o) ∧ w'.ownsRow w.heap.size 4 1 (.slice A2 nx.length c2) nx.length (bools nx) ∧ EvalR P li ls o nx x
def EVAL (P : PK) (IA : Option Addr) (cI : Nat) (li : List Bool) (SA : Option Addr) (cS : Nat) (ls : List Bool) (w : World) (R : Ending → World → Prop) : Prop :=
  Calls Tryz.prog 36 #[.agg #[.int .i64 P.I, .slice P.AB P.bs.length P.cB, .slice P.AO P.outs.length P.cO], .slice IA li.length cI, .slice SA ls.length cS] w R
theorem results_tmp3 {fn : Func} {t u v : Tmp} (h : fn.results = #[.tmp t, .tmp u, .tmp v]) (tmps : Array Value) (P : Program) (w : World) :
    (results fn tmps).run P w = .ok (.tuple #[tmps.getD t undef, tmps.getD u undef, tmps.getD v undef]) w := by simp [results, h]

def CutW (w2 : World) (m : Nat) (W : List Bool) (v : Value) (wx : World) : Prop := ∃ WA cW, v = .slice WA m cW ∧ Below w2.heap.size w2 wx ∧ wx.ownsRow w2.heap.size 4 1 (.slice WA m cW) m (bools W)
/-- the wires, and memory since -/
structure VW (w2 wx : World) (WA : Option Addr) (m cW : Nat) (W : List Bool) : Prop where
  below : Below w2.heap.size w2 wx
  own : wx.ownsRow w2.heap.size 4 1 (.slice WA m cW) m (bools W)
theorem VW.keep {w2 wx wy : World} {WA : Option Addr} {m cW : Nat} {W : List Bool} (h : VW w2 wx WA m cW W) (hb : Below wx.heap.size wx wy) : VW w2 wy WA m cW W := ⟨below_then h.below hb, own_keep h.own hb⟩
theorem VW.len {w2 wx : World} {WA : Option Addr} {m cW : Nat} {W : List Bool} (h : VW w2 wx WA m cW W) : W.length = m := by have := h.own.1; rw [bools_length] at this; omega
theorem VW.cell {w2 wx : World} {g m cW : Nat} {W : List Bool} (h : VW w2 wx (some ⟨g, 0, none⟩) m cW W) {k : Nat} (hk : k < m) : wx.cell? ⟨g, k, none⟩ = some (.bool (W.getD k false)) := by
  have hl := h.len
  have := h.own.cells (g := g) rfl k (.bool (W.getD k false)) (by simp [bools, List.getD_eq_getElem?_getD, List.getElem?_eq_getElem (show k < W.length by omega)])
  rw [Addr.add_lit] at this
  simpa using this
theorem VW.set {w2 wx : World} {g m cW : Nat} {W : List Bool} (h : VW w2 wx (some ⟨g, 0, none⟩) m cW W) (k : Nat) (b : Bool) : VW w2 (wx.setCell ⟨g, k, none⟩ (.bool b)) (some ⟨g, 0, none⟩) m cW (W.set k b) := by
  have hg := (h.own.lt g rfl).1
  refine ⟨h.below.setCell (p := ⟨g, k, none⟩) hg _, ?_⟩
  have := (h.own.stored k (.bool b)).1
  rwa [show (bools W).set k (.bool b) = bools (W.set k b) by simp [bools, List.map_set]] at this
theorem VW.drew {w2 wx : World} {WA : Option Addr} {m cW : Nat} {W : List Bool} (h : VW w2 wx WA m cW W) (n : Nat) : VW w2 (wx.drewN n) WA m cW W := h.keep (below_drewN (Below.refl _ _) n)
theorem flops_lt {P : PK} {k : Nat} (h : k < P.flops.length) : P.flops.getD k 0 < P.bs.length := by
  rw [List.getD_eq_getElem?_getD, List.getElem?_eq_getElem h]
  exact List.mem_range.1 (List.mem_filter.1 (List.getElem_mem h)).1
theorem wp_app_run (w : World) {o : Oper} {a : Act} {K : Act → World → Prop} {Q : Exit → Act → World → Prop} (s x : Operand) (t tn : TypeId)
    (ho : o.op = .call { callee := .builtin .append, args := #[s, x], argTypes := #[t, tn] }) (v u : Value) (hs : a.eval s = v) (hx : a.eval x = u) {v' : Value} {w' : World}
    (hr : (Builtin.append_ #[t, tn] o.type #[v, u]).run Tryz.prog w = .ok v' w') (h : K (a.put o.dst v') w') : o.wp Tryz.prog a w K Q := by
  unfold Oper.wp execOp
  simp only [ho, resolve, invoke, builtin, Sem.run_bind, Sem.run_pure, Result.andThen_ok, List.map_toArray, List.map_cons, List.map_nil, hs, hx, hr]
  exact h
theorem step_app_run {ops : Array Oper} {w : World} {o : Oper} {a : Act} {K : Act → World → Prop} {Q : Exit → Act → World → Prop} {E : Prop} (hgd : o.guard = none) (s x : Operand) (t tn : TypeId)
    (ho : o.op = .call { callee := .builtin .append, args := #[s, x], argTypes := #[t, tn] }) (v u : Value) (hs : a.eval s = v) (hx : a.eval x = u) {v' : Value} {w' : World}
    (hr : (Builtin.append_ #[t, tn] o.type #[v, u]).run Tryz.prog w = .ok v' w') (h : K (a.put o.dst v') w') : if Region.wanted o (yielded ops a.tmps) = true then Oper.wp Tryz.prog o a w K Q else E := by
  have hw : Region.wanted o (yielded ops a.tmps) = true := by simp [Region.wanted, hgd]
  rw [if_pos hw]
  exact wp_app_run w s x t tn ho v u hs hx hr h

theorem runL_take (val : Nat → List Bool → Bool) (n : Nat) (O : List Nat) (W : List Bool) {q : Nat} (h : q < O.length) :
    runL val n (O.take (q + 1)) W = (runL val n (O.take q) W).set (n + O.getD q 0) (val (O.getD q 0) (runL val n (O.take q) W)) := by
  rw [List.take_add_one, List.getElem?_eq_getElem h]
  simp only [Option.toList_some]
  rw [runL_snoc]
  simp [List.getD_eq_getElem?_getD, List.getElem?_eq_getElem h]
theorem tab_le {t : Int} {n : Nat} (h0 : 0 ≤ t) (h : t < 2 ^ 2 ^ n) (hn : n ≤ 4) : t.toNat ≤ 65536 := by
  rcases (show n = 0 ∨ n = 1 ∨ n = 2 ∨ n = 3 ∨ n = 4 by omega) with rfl | rfl | rfl | rfl | rfl <;> simp at h <;> omega
/-- block i as memory has it -/
theorem PK.blockAt {P : PK} {wx : World} (hin : P.In wx) (hm : P.may) {i : Nat} (hi : i < P.bs.length) : ∃ (a : Addr) (bA : Option Addr) (bc : Nat) (bl : List Int) (tn : Nat) (bff bit : Bool), P.AB = some a ∧
    wx.cell? (a.add (i * 4)) = some (.slice bA bl.length bc) ∧ wx.cell? ⟨(a.add (i * 4)).block, (a.add (i * 4)).off + 1, none⟩ = some (.int .i64 (tn : Int)) ∧ wx.cell? ⟨(a.add (i * 4)).block, (a.add (i * 4)).off + 2, none⟩ = some (.bool bff) ∧
    wx.cell? ⟨(a.add (i * 4)).block, (a.add (i * 4)).off + 3, none⟩ = some (.bool bit) ∧ Rd wx 1 bA bl.length bc (ints bl) ∧ bl.length ≤ 4 ∧ (∀ x ∈ bl, 0 ≤ x ∧ x < P.N) ∧ tn ≤ 65536 ∧ a.block < wx.heap.size ∧ ∀ W, P.val i W = valB bl tn W := by
  obtain ⟨a, hA, hab, c0, c1, c2, c3⟩ := hin.blocks.block hi
  have hmem : P.bs[i] ∈ P.bs := List.getElem_mem hi
  obtain ⟨h4, hx, -, ht0, ht1⟩ := hm.2.2.2.1 _ hmem
  have he : (P.bs[i].t.toNat : Int) = P.bs[i].t := by omega
  exact ⟨a, P.bs[i].A, P.bs[i].c, P.bs[i].l, P.bs[i].t.toNat, P.bs[i].ff, P.bs[i].it, hA, c0, by rw [he]; exact c1, c2, c3, hin.each _ hmem, h4, any_bad_no hx, tab_le ht0 ht1 h4, hab, fun W => by
    unfold PK.val; rw [inL_get hi, tAt_get hi]⟩
theorem all_len_le {P : PK} {O : List Nat} (h : All (depE P.E) P.S O) : O.length ≤ P.bs.length := by
  rw [h.len (n := P.bs.length) (fun b hb => PK.S_lt hb)]; exact Nat.le_trans (List.length_filter_le _ _) (by simp)
theorem nat_getD_mem {l : List Nat} {k : Nat} (h : k < l.length) : l.getD k 0 ∈ l := by
  rw [List.getD_eq_getElem?_getD, List.getElem?_eq_getElem h]; exact List.getElem_mem h
theorem take_map_next {α β : Type} (f : α → β) {l : List α} {k : Nat} (h : k < l.length) : (l.take (k + 1)).map f = (l.take k).map f ++ [f l[k]] := by
  rw [List.take_add_one, List.getElem?_eq_getElem h, List.map_append]; rfl
theorem take_map_len {α β : Type} (f : α → β) {l : List α} {k : Nat} (h : k ≤ l.length) : ((l.take k).map f).length = k := by simp; omega

set_option maxRecDepth 100000 in
set_option maxHeartbeats 2000000 in
theorem eval_no (P : PK) (IA : Option Addr) (cI : Nat) (li : List Bool) (SA : Option Addr) (cS : Nat) (ls : List Bool) (w : World) (hin : P.In w) (hf : P.fit) (h : ¬ (P.may ∧ ∃ m, All (depE P.E) P.S m)) : EVAL P IA cI li SA cS ls w (EvalOut P li ls w) := by
  have T0 := Lib.hid (MW.new w P)
  have hi1 := hin.later (below_new w (.cells #[.int .i64 P.I, .slice P.AB P.bs.length P.cB, .slice P.AO P.outs.length P.cO] 33))
  unfold EVAL
  by_cases hm : P.may
  · have ho := order_yes P _ hi1 hf hm
    unfold ORD at ho
    have HO := Lib.hid ho
    have H := Lib.hid h
    have HM := Lib.hid hm
    clear ho hin hi1 hf h hm
    go_enter Tryz.func36, Tryz.ntmps36
    go_wp2_with fail
    refine HO.out.mono ?_
    rintro e w1 (⟨A, c, O, rfl, hA, hb, -⟩ | ⟨rfl, hA, hb⟩)
    · exact absurd ⟨HM.out, O, hA⟩ H.out
    · have T1 := Lib.hid (T0.out.keep hb)
      have HA := Lib.hid hA
      clear hb hA
      go_wp2_with fail
      refine bodyPost_ret (results_tmp3 Tryz.results36 _ _ _) rfl ?_
      exact ⟨none, 0, [], none, 0, [], 321, rfl, T1.out.below, World.ownsRow_nil _ _ _ _, World.ownsRow_nil _ _ _ _, .inl ⟨.inr (.inr ⟨rfl, HM.out, HA.out⟩), by decide, rfl, rfl⟩⟩
  · have ho := order_no P _ hi1 hf hm
    unfold ORD at ho
    have HO := Lib.hid ho
    have HM := Lib.hid hm
    clear ho hin hi1 hf h hm
    go_enter Tryz.func36, Tryz.ntmps36
    go_wp2_with fail
    refine HO.out.mono ?_
    rintro e w1 ⟨rfl, hb⟩
    have T1 := Lib.hid (T0.out.keep hb)
    clear hb
    go_wp2_with fail
    refine bodyPost_ret (results_tmp3 Tryz.results36 _ _ _) rfl ?_
    exact ⟨none, 0, [], none, 0, [], 1, rfl, T1.out.below, World.ownsRow_nil _ _ _ _, World.ownsRow_nil _ _ _ _, .inl ⟨.inr (.inl ⟨rfl, HM.out⟩), by decide, rfl, rfl⟩⟩

set_option maxRecDepth 100000 in
set_option maxHeartbeats 8000000 in
theorem eval_yes (P : PK) (IA : Option Addr) (cI : Nat) (li : List Bool) (SA : Option Addr) (cS : Nat) (ls : List Bool) (w : World) (hin : P.In w) (hf : P.fit) (hm : P.may) (hall : ∃ m, All (depE P.E) P.S m)
    (hri : Rd w 1 IA li.length cI (bools li)) (hrs : Rd w 1 SA ls.length cS (bools ls)) (hli : li.length ≤ 100000) (hls : ls.length ≤ 100000) : EVAL P IA cI li SA cS ls w (EvalOut P li ls w) := by
  have T0 := Lib.hid (MW.new w P)
  have hi1 := hin.later (below_new w (.cells #[.int .i64 P.I, .slice P.AB P.bs.length P.cB, .slice P.AO P.outs.length P.cO] 33))
  have ho := order_yes P _ hi1 hf hm
  have hfl := fun W (hB : Below w.heap.size w W) => flops_any P W (hin.later hB) (by have := hm.2.2.1; omega)
  unfold ORD at ho
  unfold EVAL
  have HO := Lib.hid ho
  have HFL := Lib.hid hfl
  have HM := Lib.hid hm
  have HALL := Lib.hid hall
  have HIN := Lib.hid hin
  have HRI := Lib.hid hri
  have HRS := Lib.hid hrs
  have HF := Lib.hid hf
  have hfn := flopTo_len P.bs P.bs.length
  obtain ⟨hI0, hI1⟩ : 0 ≤ P.I ∧ P.I ≤ 1024 := ⟨hm.1, hm.2.1⟩
  have hnb := hm.2.2.1
  clear ho hin hi1 hf hm hall hri hrs hfl
  go_enter Tryz.func36, Tryz.ntmps36
  go_wp2_with fail
  refine HO.out.mono ?_
  rintro e w1 (⟨AR, cR, O, rfl, hA, hb, hrO⟩ | ⟨rfl, hA, hb⟩)
  case inr =>
    obtain ⟨m, hm⟩ := HALL.out
    exact absurd hm (hA m)
  have T1 := Lib.hid (T0.out.keep hb)
  have HA := Lib.hid hA
  have hOl := all_len_le hA
  have HRO := Lib.hid hrO
  obtain ⟨k0, k1, k2⟩ := T1.out.cells
  clear hb hA hrO
  go_wp2_with fail
  refine (HFL.out _ T1.out.below).mono ?_
  rintro e w2 ⟨AF, cF, rfl, hb2, hoF⟩
  have T2 := Lib.hid (T1.out.keep hb2)
  have HRO2 := Lib.hid (HRO.out.later hb2)
  have HRF := Lib.hid (Rd.of_own hoF)
  have HFO := Lib.hid hoF
  obtain ⟨k0, k1, k2⟩ := T2.out.cells
  obtain ⟨nF, hnF⟩ : ∃ n, P.flops.length = n := ⟨_, rfl⟩
  have HNF := Lib.hid hnF
  have hnF1 : nF ≤ P.bs.length := by rw [← hnF]; exact hfn
  rw [hnF]
  clear hb2 hoF hnF hfn
  by_cases g1 : (li.length : Int) = P.I
  case neg =>
    have g1' : ((li.length : Int) != P.I) = true := by rw [bne_iff_ne]; exact g1
    have G1 := Lib.hid g1
    clear g1
    go_wp2_with fail
    refine bodyPost_ret (results_tmp3 Tryz.results36 _ _ _) rfl ?_
    exact ⟨none, 0, [], none, 0, [], 1, rfl, T2.out.below, World.ownsRow_nil _ _ _ _, World.ownsRow_nil _ _ _ _, .inr (.inl ⟨.inl ⟨rfl, HM.out, HALL.out⟩, .inl G1.out, rfl, rfl, rfl⟩)⟩
  have g1' : ((li.length : Int) != P.I) = false := by rw [bne_eq_false_iff_eq]; exact g1
  have G1 := Lib.hid g1
  clear g1
  by_cases g2 : ls.length = nF
  case neg =>
    have g2' : ((ls.length : Int) != (nF : Int)) = true := by rw [bne_iff_ne]; omega
    have G2 := Lib.hid g2
    clear g2
    go_wp2_with fail
    refine bodyPost_ret (results_tmp3 Tryz.results36 _ _ _) rfl ?_
    exact ⟨none, 0, [], none, 0, [], 1, rfl, T2.out.below, World.ownsRow_nil _ _ _ _, World.ownsRow_nil _ _ _ _, .inr (.inl ⟨.inl ⟨rfl, HM.out, HALL.out⟩, .inr (by rw [HNF.out]; exact G2.out), rfl, rfl, rfl⟩)⟩
  have g2' : ((ls.length : Int) != (nF : Int)) = false := by rw [bne_eq_false_iff_eq]; omega
  have G2 := Lib.hid g2
  clear g2
  go_upto_region 7 with (fail)
  obtain ⟨m, hm⟩ : ∃ m, li.length + P.bs.length = m := ⟨_, rfl⟩
  have hm1 : m ≤ 200000 := by omega
  have HMM := Lib.hid hm
  have hcl := fun W (hB : Below w2.heap.size w2 W) => clone_bools W IA li.length cI li ((HRI.out.later T2.out.below).later hB) (by omega)
  have HCL := Lib.hid hcl
  have hz2 : w.heap.size < w2.heap.size := T2.out.box.lt
  clear hcl hm k2
  go_cut [11] (fun v11 wx => CutW w2 m (li ++ List.replicate P.bs.length false) v11 wx)
  case first =>
    refine wp_region_held_drew (S := (fun _ => True)) (by kernel_rfl) ?_ (fun hHeld => ?_)
    · trivial
    refine wpAnyH_take (i := 0) (oi := { dst := some 42, op := Op.move (Operand.tmp 1), type := 25, pos := _, after := #[], guard := none }) (v := ?_) rfl (by kernel_rfl) (by kernel_rfl) (by kernel_rfl) (fun _ _ _ h => h) (Or.inl ⟨by rfl, ?_⟩) (by assumption) ?_
    rotate_left
    · intro w hSw; (try dsimp only at hSw); go_simp; (try with_reducible rfl)
    try simp only [Act.put, List.setIfInBounds_toArray, List.set_cons_zero, List.set_cons_succ]
    refine wpAnyH_take (i := 2) (oi := { dst := some 44, op := Op.fieldAddr 33 (Operand.tmp 3) 1, type := 0, pos := _, after := #[], guard := none }) (v := ?_) rfl (by kernel_rfl) (by kernel_rfl) (by kernel_rfl) (fun _ _ _ h => h) (Or.inl ⟨by rfl, ?_⟩) (by assumption) ?_
    rotate_left
    · intro w hSw; (try dsimp only at hSw); go_simp; (try with_reducible rfl)
    try simp only [Act.put, List.setIfInBounds_toArray, List.set_cons_zero, List.set_cons_succ]
    refine wpAnyH_ready (rs := [1, 3]) (by kernel_rfl) (by simp) ?_
    refine AllReadyH.cons (o := { dst := some 43, op := Op.call { callee := Callee.value (Operand.func 69), args := #[Operand.tmp 42], argTypes := #[25] }, type := 25, pos := _, after := #[{ on := 0, ground := Ground.data }], guard := none }) rfl (fun K hK => ?_) (AllReadyH.cons (o := { dst := some 45, op := Op.load 31 (Operand.tmp 44), type := 31, pos := _, after := #[{ on := 2, ground := Ground.data }], guard := none }) rfl (fun K hK => ?_) AllReadyH.nil)
    · skip
      go_simp
      with_reducible refine (HCL.out _ ?_).mono ?_
      · exact below_drewN (Below.refl _ _) 1
      rintro e w7 ⟨A7, c7, rfl, hb7, ho7⟩
      have hb7 := below_of_drew hb7
      have T7 := Lib.hid (T2.out.keep hb7)
      have B7 := Lib.hid hb7
      have ho7 := Lib.hid ho7
      have k17 := T7.out.cells.2.1
      clear hb7
      refine hK.out _ _ ?_ (fun hHeld => ?_)
      · trivial
      clear hK K
      try simp only [Act.put, List.setIfInBounds_toArray, List.set_cons_zero, List.set_cons_succ]
      refine wpAnyH_ready (rs := [3]) (by kernel_rfl) (by simp) ?_
      refine AllReadyH.cons (o := { dst := some 45, op := Op.load 31 (Operand.tmp 44), type := 31, pos := _, after := #[{ on := 2, ground := Ground.data }], guard := none }) rfl (fun K hK => ?_) AllReadyH.nil
      go_simp
      refine hK.out _ _ ?_ (fun hHeld => ?_)
      · trivial
      clear hK K
      try simp only [Act.put, List.setIfInBounds_toArray, List.set_cons_zero, List.set_cons_succ]
      refine wpAnyH_ready (rs := [4]) (by kernel_rfl) (by simp) ?_
      refine AllReadyH.cons (o := { dst := some 46, op := Op.call { callee := Callee.builtin Builtin.len, args := #[Operand.tmp 45], argTypes := #[31] }, type := 3, pos := _, after := #[{ on := 3, ground := Ground.data }], guard := none }) rfl (fun K hK => ?_) AllReadyH.nil
      go_simp
      refine hK.out _ _ ?_ (fun hHeld => ?_)
      · trivial
      clear hK K
      try simp only [Act.put, List.setIfInBounds_toArray, List.set_cons_zero, List.set_cons_succ]
      refine wpAnyH_ready (rs := [5]) (by kernel_rfl) (by simp) ?_
      refine AllReadyH.cons (o := { dst := some 47, op := Op.call { callee := Callee.builtin Builtin.append, args := #[Operand.tmp 43, Operand.tmp 46], argTypes := #[25, 3] }, type := 25, pos := _, after := #[{ on := 1, ground := Ground.data }, { on := 4, ground := Ground.data }, { on := 1, ground := Ground.chain }], guard := none }) rfl (fun K hK => ?_) AllReadyH.nil
      obtain ⟨A8, c8, w8, hrun8, ho8, hg8⟩ := append_falses ho7.out P.bs.length (by omega) (by have := B7.out.size; exact this) 25
      refine step_app_run (by rfl) (.tmp 43) (.tmp 46) 25 3 (by rfl) (.slice A7 li.length c7) (.int .i64 (P.bs.length : Int)) (by rfl) (by rfl) hrun8 ?_
      have B8 := Lib.hid (B7.out.grown hg8 (by have := B7.out.size; exact this) (fun k hk => own_base ho7.out hk))
      have ho8 := Lib.hid ho8
      clear hrun8 hg8
      refine hK.out _ _ ?_ (fun hHeld => ?_)
      · trivial
      clear hK K
      try simp only [Act.put, List.setIfInBounds_toArray, List.set_cons_zero, List.set_cons_succ]
      refine wpAnyH_ready (rs := [6]) (by kernel_rfl) (by simp) ?_
      refine AllReadyH.cons (o := { dst := some 11, op := Op.assign (Operand.tmp 47), type := 25, pos := _, after := #[{ on := 5, ground := Ground.data }, { on := 5, ground := Ground.chain }, { on := 0, ground := Ground.phase }, { on := 1, ground := Ground.phase }, { on := 2, ground := Ground.phase }, { on := 3, ground := Ground.phase }, { on := 4, ground := Ground.phase }, { on := 5, ground := Ground.phase }], guard := none }) rfl (fun K hK => ?_) AllReadyH.nil
      go_simp
      refine hK.out _ _ ?_ (fun hHeld => ?_)
      · trivial
      clear hK K
      try simp only [Act.put, List.setIfInBounds_toArray, List.set_cons_zero, List.set_cons_succ]
      refine wpAnyH_done (by kernel_rfl) ?_ _
      clear hHeld
      go_wp2_with fail
      go_meet
      exact ⟨A8, c8, by rw [HMM.out], B8.out, by rw [← HMM.out]; exact ho8.out⟩
    · skip
      go_simp
      refine hK.out _ _ ?_ (fun hHeld => ?_)
      · trivial
      clear hK K
      try simp only [Act.put, List.setIfInBounds_toArray, List.set_cons_zero, List.set_cons_succ]
      refine wpAnyH_ready (rs := [1, 4]) (by kernel_rfl) (by simp) ?_
      refine AllReadyH.cons (o := { dst := some 43, op := Op.call { callee := Callee.value (Operand.func 69), args := #[Operand.tmp 42], argTypes := #[25] }, type := 25, pos := _, after := #[{ on := 0, ground := Ground.data }], guard := none }) rfl (fun K hK => ?_) (AllReadyH.cons (o := { dst := some 46, op := Op.call { callee := Callee.builtin Builtin.len, args := #[Operand.tmp 45], argTypes := #[31] }, type := 3, pos := _, after := #[{ on := 3, ground := Ground.data }], guard := none }) rfl (fun K hK => ?_) AllReadyH.nil)
      · skip
        go_simp
        with_reducible refine (HCL.out _ ?_).mono ?_
        · exact below_drewN (Below.refl _ _) 1
        rintro e w7 ⟨A7, c7, rfl, hb7, ho7⟩
        have hb7 := below_of_drew hb7
        have T7 := Lib.hid (T2.out.keep hb7)
        have B7 := Lib.hid hb7
        have ho7 := Lib.hid ho7
        have k17 := T7.out.cells.2.1
        clear hb7
        refine hK.out _ _ ?_ (fun hHeld => ?_)
        · trivial
        clear hK K
        try simp only [Act.put, List.setIfInBounds_toArray, List.set_cons_zero, List.set_cons_succ]
        refine wpAnyH_ready (rs := [4]) (by kernel_rfl) (by simp) ?_
        refine AllReadyH.cons (o := { dst := some 46, op := Op.call { callee := Callee.builtin Builtin.len, args := #[Operand.tmp 45], argTypes := #[31] }, type := 3, pos := _, after := #[{ on := 3, ground := Ground.data }], guard := none }) rfl (fun K hK => ?_) AllReadyH.nil
        go_simp
        refine hK.out _ _ ?_ (fun hHeld => ?_)
        · trivial
        clear hK K
        try simp only [Act.put, List.setIfInBounds_toArray, List.set_cons_zero, List.set_cons_succ]
        refine wpAnyH_ready (rs := [5]) (by kernel_rfl) (by simp) ?_
        refine AllReadyH.cons (o := { dst := some 47, op := Op.call { callee := Callee.builtin Builtin.append, args := #[Operand.tmp 43, Operand.tmp 46], argTypes := #[25, 3] }, type := 25, pos := _, after := #[{ on := 1, ground := Ground.data }, { on := 4, ground := Ground.data }, { on := 1, ground := Ground.chain }], guard := none }) rfl (fun K hK => ?_) AllReadyH.nil
        obtain ⟨A8, c8, w8, hrun8, ho8, hg8⟩ := append_falses ho7.out P.bs.length (by omega) (by have := B7.out.size; exact this) 25
        refine step_app_run (by rfl) (.tmp 43) (.tmp 46) 25 3 (by rfl) (.slice A7 li.length c7) (.int .i64 (P.bs.length : Int)) (by rfl) (by rfl) hrun8 ?_
        have B8 := Lib.hid (B7.out.grown hg8 (by have := B7.out.size; exact this) (fun k hk => own_base ho7.out hk))
        have ho8 := Lib.hid ho8
        clear hrun8 hg8
        refine hK.out _ _ ?_ (fun hHeld => ?_)
        · trivial
        clear hK K
        try simp only [Act.put, List.setIfInBounds_toArray, List.set_cons_zero, List.set_cons_succ]
        refine wpAnyH_ready (rs := [6]) (by kernel_rfl) (by simp) ?_
        refine AllReadyH.cons (o := { dst := some 11, op := Op.assign (Operand.tmp 47), type := 25, pos := _, after := #[{ on := 5, ground := Ground.data }, { on := 5, ground := Ground.chain }, { on := 0, ground := Ground.phase }, { on := 1, ground := Ground.phase }, { on := 2, ground := Ground.phase }, { on := 3, ground := Ground.phase }, { on := 4, ground := Ground.phase }, { on := 5, ground := Ground.phase }], guard := none }) rfl (fun K hK => ?_) AllReadyH.nil
        go_simp
        refine hK.out _ _ ?_ (fun hHeld => ?_)
        · trivial
        clear hK K
        try simp only [Act.put, List.setIfInBounds_toArray, List.set_cons_zero, List.set_cons_succ]
        refine wpAnyH_done (by kernel_rfl) ?_ _
        clear hHeld
        go_wp2_with fail
        go_meet
        exact ⟨A8, c8, by rw [HMM.out], B8.out, by rw [← HMM.out]; exact ho8.out⟩
      · skip
        go_simp
        refine hK.out _ _ ?_ (fun hHeld => ?_)
        · trivial
        clear hK K
        try simp only [Act.put, List.setIfInBounds_toArray, List.set_cons_zero, List.set_cons_succ]
        refine wpAnyH_ready (rs := [1]) (by kernel_rfl) (by simp) ?_
        refine AllReadyH.cons (o := { dst := some 43, op := Op.call { callee := Callee.value (Operand.func 69), args := #[Operand.tmp 42], argTypes := #[25] }, type := 25, pos := _, after := #[{ on := 0, ground := Ground.data }], guard := none }) rfl (fun K hK => ?_) AllReadyH.nil
        go_simp
        with_reducible refine (HCL.out _ ?_).mono ?_
        · exact below_drewN (Below.refl _ _) 1
        rintro e w7 ⟨A7, c7, rfl, hb7, ho7⟩
        have hb7 := below_of_drew hb7
        have T7 := Lib.hid (T2.out.keep hb7)
        have B7 := Lib.hid hb7
        have ho7 := Lib.hid ho7
        have k17 := T7.out.cells.2.1
        clear hb7
        refine hK.out _ _ ?_ (fun hHeld => ?_)
        · trivial
        clear hK K
        try simp only [Act.put, List.setIfInBounds_toArray, List.set_cons_zero, List.set_cons_succ]
        refine wpAnyH_ready (rs := [5]) (by kernel_rfl) (by simp) ?_
        refine AllReadyH.cons (o := { dst := some 47, op := Op.call { callee := Callee.builtin Builtin.append, args := #[Operand.tmp 43, Operand.tmp 46], argTypes := #[25, 3] }, type := 25, pos := _, after := #[{ on := 1, ground := Ground.data }, { on := 4, ground := Ground.data }, { on := 1, ground := Ground.chain }], guard := none }) rfl (fun K hK => ?_) AllReadyH.nil
        obtain ⟨A8, c8, w8, hrun8, ho8, hg8⟩ := append_falses ho7.out P.bs.length (by omega) (by have := B7.out.size; exact this) 25
        refine step_app_run (by rfl) (.tmp 43) (.tmp 46) 25 3 (by rfl) (.slice A7 li.length c7) (.int .i64 (P.bs.length : Int)) (by rfl) (by rfl) hrun8 ?_
        have B8 := Lib.hid (B7.out.grown hg8 (by have := B7.out.size; exact this) (fun k hk => own_base ho7.out hk))
        have ho8 := Lib.hid ho8
        clear hrun8 hg8
        refine hK.out _ _ ?_ (fun hHeld => ?_)
        · trivial
        clear hK K
        try simp only [Act.put, List.setIfInBounds_toArray, List.set_cons_zero, List.set_cons_succ]
        refine wpAnyH_ready (rs := [6]) (by kernel_rfl) (by simp) ?_
        refine AllReadyH.cons (o := { dst := some 11, op := Op.assign (Operand.tmp 47), type := 25, pos := _, after := #[{ on := 5, ground := Ground.data }, { on := 5, ground := Ground.chain }, { on := 0, ground := Ground.phase }, { on := 1, ground := Ground.phase }, { on := 2, ground := Ground.phase }, { on := 3, ground := Ground.phase }, { on := 4, ground := Ground.phase }, { on := 5, ground := Ground.phase }], guard := none }) rfl (fun K hK => ?_) AllReadyH.nil
        go_simp
        refine hK.out _ _ ?_ (fun hHeld => ?_)
        · trivial
        clear hK K
        try simp only [Act.put, List.setIfInBounds_toArray, List.set_cons_zero, List.set_cons_succ]
        refine wpAnyH_done (by kernel_rfl) ?_ _
        clear hHeld
        go_wp2_with fail
        go_meet
        exact ⟨A8, c8, by rw [HMM.out], B8.out, by rw [← HMM.out]; exact ho8.out⟩
  case rest =>
    obtain ⟨WA, cW, rfl, hb3, how⟩ := hcut
    have V3 := Lib.hid (VW.mk hb3 how)
    obtain ⟨NI, hNI⟩ := Int.eq_ofNat_of_zero_le hI0
    have HNI := Lib.hid hNI
    have hmN : NI + P.bs.length = m := by have h1 := HMM.out; have h2 := G1.out; omega
    clear hb3 how hNI k0 k1 k2
    go_wp2_with fail
    go_loopw [50] (fun v50 wx => ∃ k : Nat, k ≤ nF ∧ v50 = .int .i64 (k : Int) ∧ VW w2 wx WA m cW (stTo NI P.flops ls (li ++ List.replicate P.bs.length false) k)) (fun v50 _ => nF - (intOf v50).toNat)
    case atStart => exact ⟨0, by omega, rfl, V3.out⟩
    case round =>
      obtain ⟨k, hk, rfl, hV⟩ := hrel
      have V4 := Lib.hid hV
      have T4 := T2.out.keep hV.below
      have c0 : wr.cell? ⟨w.heap.size, 0, none⟩ = some (.int .i64 (NI : Int)) := by have := T4.cells.1; rw [HNI.out] at this; exact this
      have hz4 := hV.below.size
      clear hV V3 T4
      by_cases hlt : k < nF
      case neg =>
        obtain rfl : k = nF := by omega
        have hw1 : stTo NI P.flops ls (li ++ List.replicate P.bs.length false) k = P.w1 li ls := by
          unfold PK.w1; rw [HNI.out, HNF.out]; rfl
        rw [hw1] at V4
        clear hw1
        go_wp2_with fail
        go_loopw [68] (fun v68 wx => ∃ q : Nat, q ≤ O.length ∧ v68 = .int .i64 (q : Int) ∧ VW w2 wx WA m cW (runL P.val NI (O.take q) (P.w1 li ls))) (fun v68 _ => O.length - (intOf v68).toNat)
        case atStart => exact ⟨0, by omega, rfl, V4.out⟩
        case round =>
          clear V4 hz4 c0
          obtain ⟨q, hq, rfl, hV⟩ := hrel
          have V6 := Lib.hid hV
          have T6 := Lib.hid (T2.out.keep hV.below)
          have hz6 := hV.below.size
          clear hV
          by_cases hlt2 : q < O.length
          case neg =>
            obtain rfl : q = O.length := by omega
            rw [List.take_length] at V6
            have hw2 : runL P.val NI O (P.w1 li ls) = P.w2 O li ls := by unfold PK.w2; rw [HNI.out]; rfl
            rw [hw2] at V6
            clear hw2
            obtain ⟨W2, hW2⟩ : ∃ W, P.w2 O li ls = W := ⟨_, rfl⟩
            rw [hW2] at V6
            have HW2 := Lib.hid hW2
            clear hW2
            obtain ⟨k0, k1, k2⟩ := T6.out.cells
            obtain ⟨w3, hw3⟩ : ∃ w3, w3 = wr := ⟨_, rfl⟩
            rw [← hw3] at V6 T6 k0 k1 k2 hz6
            rw [← hw3]
            obtain ⟨f, hf⟩ : ∃ f : Int → Bool, (fun n : Int => W2.getD n.toNat false) = f := ⟨_, rfl⟩
            have HF2 := Lib.hid hf
            clear hf hw3
            have L3 := Lib.hid (Below.refl w3.heap.size w3)
            have ho2 := HF.out.o
            obtain ⟨AO, hAO⟩ : ∃ AO, P.AO = AO := ⟨_, rfl⟩
            rw [hAO] at k2
            have HAO := Lib.hid hAO
            clear hAO
            go_wp2_with fail
            go_loopw [6, 89] (fun v6 v89 wx => ∃ (k : Nat) (A : Option Addr) (c : Nat), k ≤ P.outs.length ∧ v89 = .int .i64 (k : Int) ∧ v6 = .slice A k c ∧ Below w3.heap.size w3 wx ∧ wx.ownsRow w3.heap.size 4 1 (.slice A k c) k (bools ((P.outs.take k).map f))) (fun _ v89 _ => P.outs.length - (intOf v89).toNat)
            case atStart => exact ⟨0, none, 0, by omega, rfl, rfl, L3.out, World.ownsRow_nil _ _ _ _⟩
            case round =>
              clear k0 k1 k2
              obtain ⟨k3, A3, c3, hk3, rfl, rfl, hB, hO⟩ := hrel
              have B3 := Lib.hid hB
              have O3 := Lib.hid hO
              have T9 := Lib.hid (T6.out.keep hB)
              have V9 := Lib.hid (V6.out.keep hB)
              have hz9 := hB.size
              have hl3 := take_map_len f hk3
              clear hB hO
              by_cases hlt3 : k3 < P.outs.length
              case neg =>
                obtain rfl : k3 = P.outs.length := by omega
                rw [List.take_length] at O3
                clear k0 hl3
                obtain ⟨w4, hw4⟩ : ∃ w4, w4 = wr := ⟨_, rfl⟩
                rw [← hw4] at B3 O3 T9 V9 hz9
                rw [← hw4]
                obtain ⟨g, hg⟩ : ∃ g : Nat → Bool, (fun i => P.val i W2) = g := ⟨_, rfl⟩
                have HG2 := Lib.hid hg
                clear hg hw4
                have L4 := Lib.hid (Below.refl w4.heap.size w4)
                have OR := O3
                go_wp2_with fail
                go_loopw [7, 103] (fun v7 v103 wx => ∃ (j : Nat) (A : Option Addr) (c : Nat), j ≤ k ∧ v103 = .int .i64 (j : Int) ∧ v7 = .slice A j c ∧ Below w4.heap.size w4 wx ∧ wx.ownsRow w4.heap.size 4 1 (.slice A j c) j (bools ((P.flops.take j).map g))) (fun _ v103 _ => k - (intOf v103).toNat)
                case atStart => exact ⟨0, none, 0, by omega, rfl, rfl, L4.out, World.ownsRow_nil _ _ _ _⟩
                case round =>
                  obtain ⟨j, A4, c4, hj, rfl, rfl, hB, hO⟩ := hrel
                  have B4 := Lib.hid hB
                  have O4 := Lib.hid hO
                  have T10 := Lib.hid (T9.out.keep hB)
                  have V10 := Lib.hid (V9.out.keep hB)
                  have hz10 := hB.size
                  have hl4 := take_map_len g (show j ≤ P.flops.length by have := HNF.out; omega)
                  have HL4 := Lib.hid hl4
                  clear hB hO
                  by_cases hlt5 : j < k
                  case neg =>
                    obtain rfl : j = k := by omega
                    rw [List.take_of_length_le (show P.flops.length ≤ j by have := HNF.out; omega)] at O4
                    clear hl4
                    go_wp2_with fail
                    refine bodyPost_ret (results_tmp3 Tryz.results36 _ _ _) rfl ?_
                    exact ⟨A3, c3, P.outs.map f, A4, c4, P.flops.map g, 0, by rw [List.length_map, List.length_map, HNF.out]; rfl, T10.out.below, by rw [List.length_map]; exact own_base_le (own_keep OR.out B4.out) (by omega), by rw [List.length_map, HNF.out]; exact own_base_le O4.out (by omega), .inr (.inr ⟨rfl, HM.out, G1.out, by have := G2.out; have := HNF.out; omega, O, HA.out, by rw [HW2.out, HF2.out], by rw [HW2.out, HG2.out]⟩)⟩
                  have hlt4 : j < P.flops.length := by have := HNF.out; omega
                  have hi10 := flops_lt hlt4
                  obtain ⟨aF, haF, -, cF1⟩ := (HRF.out.later V10.out.below).int hlt4
                  subst haF
                  rw [natI_getD] at cF1
                  have hnx := take_map_next g hlt4
                  rw [show P.flops[j] = P.flops.getD j 0 by rw [List.getD_eq_getElem?_getD, List.getElem?_eq_getElem hlt4]; rfl] at hnx
                  generalize P.flops.getD j 0 = i at hi10 cF1 hnx
                  have hgi : g i = P.val i W2 := by rw [← HG2.out]
                  obtain ⟨j0, j1, j2⟩ := T10.out.cells
                  obtain ⟨a, bA, bc, bl, tn, bff, bit, hAB, c0, c1, c2, c3b, hRl, hl44, hx, htn, hab, hval⟩ := PK.blockAt (HIN.out.later T10.out.below) HM.out hi10
                  rw [hAB] at j1
                  rw [hval] at hgi
                  rw [hgi] at hnx
                  have hcl := value_any bA bc bl tn bff bit WA m cW W2 wr hRl (Rd.of_own V10.out.own) hl44 (fun x h => ⟨(hx x h).1, by have := (hx x h).2; unfold PK.N at this; rw [HNI.out] at this; omega⟩) htn (by omega)
                  generalize valB bl tn W2 = b1 at hcl hnx
                  have HCL10 := Lib.hid hcl
                  have HNX := Lib.hid hnx
                  generalize (P.flops.take j).map g = L4x at O4 HNX HL4
                  clear hcl hnx hAB hRl hx htn hval hgi hl4 hlt4
                  go_wp2_with fail
                  refine HCL10.out.mono ?_
                  rintro e w7 ⟨rfl, hb7⟩
                  have B4b := Lib.hid (below_then (below_then B4.out hb7) (below_new w7 (.cells #[.bool b1] 4)))
                  have O4b := Lib.hid (own_keep O4.out hb7)
                  have hz11 := (below_then B4.out hb7).size
                  have hl5 : j ≤ 100000 := by omega
                  clear hb7
                  go_wp2_with (at_builtin; refine wpList_app_bools rfl (.tmp 107) (.tmp 115) rfl w4.heap.size A4 j c4 L4x rfl (O4b.out.alloc _) (some ⟨w7.heap.size, 0, none⟩) 1 1 [b1] rfl (rd_bool1 w7 _ b1) (by omega) (by simp; omega) ?_)
                  intro A' c' w' hO' hg'
                  have B4c := Lib.hid (B4b.out.grown hg' (by simp; omega) (fun k hk => own_base O4b.out hk))
                  have O4c := Lib.hid hO'
                  clear hO' hg'
                  go_wp2_with fail
                  go_roundw
                  case rel => exact ⟨j + 1, A', c', by omega, by go_num, rfl, B4c.out, by rw [HNX.out]; exact O4c.out⟩
                  case measure => simp [intOf]; omega
              obtain ⟨a3, ha3, -, cx⟩ := (HIN.out.outs.later T9.out.below).int hlt3
              have hx3 := any_bad_no HM.out.2.2.2.2 _ (List.getElem_mem hlt3)
              have hnx := take_map_next f hlt3
              have hxf : f P.outs[k3] = W2.getD P.outs[k3].toNat false := by rw [← HF2.out]
              rw [HAO.out] at ha3
              subst ha3
              rw [show P.outs.getD k3 0 = P.outs[k3] by rw [List.getD_eq_getElem?_getD, List.getElem?_eq_getElem hlt3]; rfl] at cx
              obtain ⟨xn, hxn⟩ := Int.eq_ofNat_of_zero_le hx3.1
              rw [hxn] at cx hxf hnx hx3
              rw [Int.toNat_natCast] at hxf
              have hxm : xn < m := by have := hx3.2; unfold PK.N at this; rw [HNI.out] at this; omega
              obtain ⟨gW, rfl, hg1, hg2⟩ := own_some V9.out.own (by omega)
              have cW9 := V9.out.cell hxm
              rw [← hxf] at cW9
              generalize f (xn : Int) = b1 at cW9 hnx
              have HNX := Lib.hid hnx
              generalize (P.outs.take k3).map f = L3x at O3 HNX hl3
              have HL3 := Lib.hid hl3
              have B3b := Lib.hid (below_then B3.out (below_new wr (.cells #[.bool b1] 4)))
              clear hxf hnx hx3 hxn hl3
              go_wp2_with (at_builtin; refine wpList_app_bools rfl (.tmp 93) (.tmp 98) rfl w3.heap.size A3 k3 c3 L3x rfl (O3.out.alloc _) (some ⟨wr.heap.size, 0, none⟩) 1 1 [b1] rfl (rd_bool1 wr _ b1) (by omega) (by simp; omega) ?_)
              intro A' c' w' hO' hg'
              have B3c := Lib.hid (B3b.out.grown hg' (by simp; omega) (fun k hk => own_base O3.out hk))
              have O3c := Lib.hid hO'
              clear hO' hg'
              go_wp2_with fail
              go_roundw
              case rel => exact ⟨k3 + 1, A', c', by omega, by go_num, rfl, B3c.out, by rw [HNX.out]; exact O3c.out⟩
              case measure => simp [intOf]; omega
          obtain ⟨aO, haO, -, cO1⟩ := (HRO2.out.later V6.out.below).int hlt2
          subst haO
          rw [natI_getD] at cO1
          have hS := HA.out.mem _ (nat_getD_mem hlt2)
          have hi6 := PK.S_lt hS
          have hrun := runL_take P.val NI O (P.w1 li ls) hlt2
          generalize O.getD q 0 = i at cO1 hS hi6 hrun
          obtain ⟨k0, k1, k2⟩ := T6.out.cells
          rw [HNI.out] at k0
          obtain ⟨a, bA, bc, bl, tn, bff, bit, hAB, c0, c1, c2, c3, hRl, hl4, hx, htn, hab, hval⟩ := PK.blockAt (HIN.out.later T6.out.below) HM.out hi6
          rw [hAB] at k1
          rw [hval] at hrun
          generalize runL P.val NI (O.take q) (P.w1 li ls) = Wq at V6 hrun
          have hcl := fun W (hB : Below wr.heap.size wr W) => value_any bA bc bl tn bff bit WA m cW Wq W (hRl.later hB) ((Rd.of_own V6.out.own).later hB) hl4 (fun x h => ⟨(hx x h).1, by have := (hx x h).2; unfold PK.N at this; rw [HNI.out] at this; omega⟩) htn (by omega)
          have HCL6 := Lib.hid hcl
          have HRUN := Lib.hid hrun
          have AB6 := Lib.hid hAB
          have hfm : NI + i < m := by omega
          obtain ⟨gW, rfl, hg1, hg2⟩ := own_some V6.out.own (by omega)
          have hix : (NI : Int) + (i : Int) < (m : Int) := by omega
          have hto : ((NI : Int) + (i : Int)).toNat = NI + i := by omega
          have hix0 : 0 ≤ (NI : Int) + (i : Int) := by omega
          have hwr : IntKind.i64.wrap ((NI : Int) + (i : Int)) = (NI : Int) + (i : Int) := IntWalk.i64_in _ (by omega)
          have HRL := Lib.hid hRl
          clear hcl hrun hAB hRl hx htn hval hS
          go_wp2_with fail
          refine wp_region_held_drew (S := (fun _ => True)) (by kernel_rfl) ?_ (fun hHeld => ?_)
          · trivial
          refine wpAnyH_take (i := 0) (oi := { dst := some 72, op := Op.move (Operand.tmp 11), type := 25, pos := _, after := #[], guard := none }) (v := ?_) rfl (by kernel_rfl) (by kernel_rfl) (by kernel_rfl) (fun _ _ _ h => h) (Or.inl ⟨by rfl, ?_⟩) (by assumption) ?_
          rotate_left
          · intro w hSw; (try dsimp only at hSw); go_simp; (try with_reducible rfl)
          try simp only [Act.put, List.setIfInBounds_toArray, List.set_cons_zero, List.set_cons_succ]
          refine wpAnyH_take (i := 1) (oi := { dst := some 73, op := Op.fieldAddr 33 (Operand.tmp 3) 0, type := 0, pos := _, after := #[], guard := none }) (v := ?_) rfl (by kernel_rfl) (by kernel_rfl) (by kernel_rfl) (fun _ _ _ h => h) (Or.inl ⟨by rfl, ?_⟩) (by assumption) ?_
          rotate_left
          · intro w hSw; (try dsimp only at hSw); go_simp; (try with_reducible rfl)
          try simp only [Act.put, List.setIfInBounds_toArray, List.set_cons_zero, List.set_cons_succ]
          refine wpAnyH_take (i := 3) (oi := { dst := some 75, op := Op.move (Operand.tmp 15), type := 3, pos := _, after := #[], guard := none }) (v := ?_) rfl (by kernel_rfl) (by kernel_rfl) (by kernel_rfl) (fun _ _ _ h => h) (Or.inl ⟨by rfl, ?_⟩) (by assumption) ?_
          rotate_left
          · intro w hSw; (try dsimp only at hSw); go_simp; (try with_reducible rfl)
          try simp only [Act.put, List.setIfInBounds_toArray, List.set_cons_zero, List.set_cons_succ]
          refine wpAnyH_take (i := 5) (oi := { dst := some 77, op := Op.fieldAddr 33 (Operand.tmp 3) 1, type := 0, pos := _, after := #[], guard := none }) (v := ?_) rfl (by kernel_rfl) (by kernel_rfl) (by kernel_rfl) (fun _ _ _ h => h) (Or.inl ⟨by rfl, ?_⟩) (by assumption) ?_
          rotate_left
          · intro w hSw; (try dsimp only at hSw); go_simp; (try with_reducible rfl)
          try simp only [Act.put, List.setIfInBounds_toArray, List.set_cons_zero, List.set_cons_succ]
          refine wpAnyH_take (i := 7) (oi := { dst := some 79, op := Op.move (Operand.tmp 15), type := 3, pos := _, after := #[], guard := none }) (v := ?_) rfl (by kernel_rfl) (by kernel_rfl) (by kernel_rfl) (fun _ _ _ h => h) (Or.inl ⟨by rfl, ?_⟩) (by assumption) ?_
          rotate_left
          · intro w hSw; (try dsimp only at hSw); go_simp; (try with_reducible rfl)
          try simp only [Act.put, List.setIfInBounds_toArray, List.set_cons_zero, List.set_cons_succ]
          refine wpAnyH_take (i := 10) (oi := { dst := some 82, op := Op.move (Operand.tmp 11), type := 25, pos := _, after := #[], guard := none }) (v := ?_) rfl (by kernel_rfl) (by kernel_rfl) (by kernel_rfl) (fun _ _ _ h => h) (Or.inl ⟨by rfl, ?_⟩) (by assumption) ?_
          rotate_left
          · intro w hSw; (try dsimp only at hSw); go_simp; (try with_reducible rfl)
          try simp only [Act.put, List.setIfInBounds_toArray, List.set_cons_zero, List.set_cons_succ]
          refine wpAnyH_ready (rs := [2, 6]) (by kernel_rfl) (by simp) ?_
          refine AllReadyH.cons (o := { dst := some 74, op := Op.load 3 (Operand.tmp 73), type := 3, pos := _, after := #[{ on := 1, ground := Ground.data }], guard := none }) rfl (fun K hK => ?_) (AllReadyH.cons (o := { dst := some 78, op := Op.load 31 (Operand.tmp 77), type := 31, pos := _, after := #[{ on := 5, ground := Ground.data }], guard := none }) rfl (fun K hK => ?_) AllReadyH.nil)
          · skip
            go_simp
            refine hK.out _ _ ?_ (fun hHeld => ?_)
            · trivial
            clear hK K
            try simp only [Act.put, List.setIfInBounds_toArray, List.set_cons_zero, List.set_cons_succ]
            refine wpAnyH_take (i := 4) (oi := { dst := some 76, op := Op.binOp BinOp.add 3 (Operand.tmp 74) (Operand.tmp 75) 3, type := 3, pos := _, after := #[{ on := 2, ground := Ground.data }, { on := 3, ground := Ground.data }], guard := none }) (v := ?_) rfl (by kernel_rfl) (by kernel_rfl) (by kernel_rfl) (fun _ _ _ h => h) (Or.inl ⟨by rfl, ?_⟩) (by assumption) ?_
            rotate_left
            · intro w hSw; (try dsimp only at hSw); go_simp; (try with_reducible rfl)
            try simp only [Act.put, List.setIfInBounds_toArray, List.set_cons_zero, List.set_cons_succ]
            refine wpAnyH_ready (rs := [6]) (by kernel_rfl) (by simp) ?_
            refine AllReadyH.cons (o := { dst := some 78, op := Op.load 31 (Operand.tmp 77), type := 31, pos := _, after := #[{ on := 5, ground := Ground.data }], guard := none }) rfl (fun K hK => ?_) AllReadyH.nil
            go_simp
            refine hK.out _ _ ?_ (fun hHeld => ?_)
            · trivial
            clear hK K
            try simp only [Act.put, List.setIfInBounds_toArray, List.set_cons_zero, List.set_cons_succ]
            refine wpAnyH_take (i := 8) (oi := { dst := some 80, op := Op.indexAddr 31 (Operand.tmp 78) (Operand.tmp 79), type := 0, pos := _, after := #[{ on := 6, ground := Ground.data }, { on := 7, ground := Ground.data }], guard := none }) (v := ?_) rfl (by kernel_rfl) (by kernel_rfl) (by kernel_rfl) (fun _ _ _ h => h) (Or.inl ⟨by rfl, ?_⟩) (by assumption) ?_
            rotate_left
            · intro w hSw; (try dsimp only at hSw); go_simp; (try with_reducible rfl)
            try simp only [Act.put, List.setIfInBounds_toArray, List.set_cons_zero, List.set_cons_succ]
            refine wpAnyH_ready (rs := [9]) (by kernel_rfl) (by simp) ?_
            refine AllReadyH.cons (o := { dst := some 81, op := Op.load 67 (Operand.tmp 80), type := 67, pos := _, after := #[{ on := 8, ground := Ground.data }], guard := none }) rfl (fun K hK => ?_) AllReadyH.nil
            go_simp
            refine hK.out _ _ ?_ (fun hHeld => ?_)
            · trivial
            clear hK K
            try simp only [Act.put, List.setIfInBounds_toArray, List.set_cons_zero, List.set_cons_succ]
            refine wpAnyH_ready (rs := [11]) (by kernel_rfl) (by simp) ?_
            refine AllReadyH.cons (o := { dst := some 83, op := Op.call { callee := Callee.value (Operand.func 70), args := #[Operand.tmp 81, Operand.tmp 82], argTypes := #[67, 25] }, type := 4, pos := _, after := #[{ on := 9, ground := Ground.data }, { on := 10, ground := Ground.data }], guard := none }) rfl (fun K hK => ?_) AllReadyH.nil
            go_simp
            with_reducible refine (HCL6.out _ ?_).mono ?_
            · exact below_drewN (Below.refl _ _) 1
            rintro e w7 ⟨rfl, hb7⟩
            have hb7 := below_of_drew hb7
            have T7 := Lib.hid (T6.out.keep hb7)
            have V7 := Lib.hid (V6.out.keep hb7)
            obtain ⟨j0, j1, j2⟩ := T7.out.cells
            rw [HNI.out] at j0
            have cW7 := V7.out.cell hfm
            have fW7 := V7.out.own.frozenAt (NI + i)
            have hz7 := V7.out.below.size
            clear hb7
            refine hK.out _ _ ?_ (fun hHeld => ?_)
            · trivial
            clear hK K
            try simp only [Act.put, List.setIfInBounds_toArray, List.set_cons_zero, List.set_cons_succ]
            refine wpAnyH_ready (rs := [12]) (by kernel_rfl) (by simp) ?_
            refine AllReadyH.cons (o := { dst := some 84, op := Op.indexAddr 25 (Operand.tmp 72) (Operand.tmp 76), type := 0, pos := _, after := #[{ on := 0, ground := Ground.data }, { on := 4, ground := Ground.data }, { on := 0, ground := Ground.phase }, { on := 1, ground := Ground.phase }, { on := 2, ground := Ground.phase }, { on := 3, ground := Ground.phase }, { on := 4, ground := Ground.phase }, { on := 5, ground := Ground.phase }, { on := 6, ground := Ground.phase }, { on := 7, ground := Ground.phase }, { on := 8, ground := Ground.phase }, { on := 9, ground := Ground.phase }, { on := 10, ground := Ground.phase }, { on := 11, ground := Ground.phase }], guard := none }) rfl (fun K hK => ?_) AllReadyH.nil
            go_simp
            refine hK.out _ _ ?_ (fun hHeld => ?_)
            · trivial
            clear hK K
            try simp only [Act.put, List.setIfInBounds_toArray, List.set_cons_zero, List.set_cons_succ]
            refine wpAnyH_ready (rs := [13]) (by kernel_rfl) (by simp) ?_
            refine AllReadyH.cons (o := { dst := none, op := Op.store 4 (Operand.tmp 84) (Operand.tmp 83), type := 0, pos := _, after := #[{ on := 12, ground := Ground.data }, { on := 11, ground := Ground.data }, { on := 11, ground := Ground.chain }, { on := 0, ground := Ground.phase }, { on := 1, ground := Ground.phase }, { on := 2, ground := Ground.phase }, { on := 3, ground := Ground.phase }, { on := 4, ground := Ground.phase }, { on := 5, ground := Ground.phase }, { on := 6, ground := Ground.phase }, { on := 7, ground := Ground.phase }, { on := 8, ground := Ground.phase }, { on := 9, ground := Ground.phase }, { on := 10, ground := Ground.phase }, { on := 11, ground := Ground.phase }], guard := none }) rfl (fun K hK => ?_) AllReadyH.nil
            go_simp
            refine hK.out _ _ ?_ (fun hHeld => ?_)
            · trivial
            clear hK K
            try simp only [Act.put, List.setIfInBounds_toArray, List.set_cons_zero, List.set_cons_succ]
            refine wpAnyH_done (by kernel_rfl) ?_ _
            clear hHeld
            have V8 := V7.out.set (NI + i) (valB bl tn Wq)
            rw [← HRUN.out] at V8
            have V8 := Lib.hid V8
            go_wp2_with fail
            go_roundw
            case rel => exact ⟨q + 1, by omega, by go_num, V8.out⟩
            case measure => simp [intOf]; omega
          · skip
            go_simp
            refine hK.out _ _ ?_ (fun hHeld => ?_)
            · trivial
            clear hK K
            try simp only [Act.put, List.setIfInBounds_toArray, List.set_cons_zero, List.set_cons_succ]
            refine wpAnyH_take (i := 8) (oi := { dst := some 80, op := Op.indexAddr 31 (Operand.tmp 78) (Operand.tmp 79), type := 0, pos := _, after := #[{ on := 6, ground := Ground.data }, { on := 7, ground := Ground.data }], guard := none }) (v := ?_) rfl (by kernel_rfl) (by kernel_rfl) (by kernel_rfl) (fun _ _ _ h => h) (Or.inl ⟨by rfl, ?_⟩) (by assumption) ?_
            rotate_left
            · intro w hSw; (try dsimp only at hSw); go_simp; (try with_reducible rfl)
            try simp only [Act.put, List.setIfInBounds_toArray, List.set_cons_zero, List.set_cons_succ]
            refine wpAnyH_ready (rs := [2, 9]) (by kernel_rfl) (by simp) ?_
            refine AllReadyH.cons (o := { dst := some 74, op := Op.load 3 (Operand.tmp 73), type := 3, pos := _, after := #[{ on := 1, ground := Ground.data }], guard := none }) rfl (fun K hK => ?_) (AllReadyH.cons (o := { dst := some 81, op := Op.load 67 (Operand.tmp 80), type := 67, pos := _, after := #[{ on := 8, ground := Ground.data }], guard := none }) rfl (fun K hK => ?_) AllReadyH.nil)
            · skip
              go_simp
              refine hK.out _ _ ?_ (fun hHeld => ?_)
              · trivial
              clear hK K
              try simp only [Act.put, List.setIfInBounds_toArray, List.set_cons_zero, List.set_cons_succ]
              refine wpAnyH_take (i := 4) (oi := { dst := some 76, op := Op.binOp BinOp.add 3 (Operand.tmp 74) (Operand.tmp 75) 3, type := 3, pos := _, after := #[{ on := 2, ground := Ground.data }, { on := 3, ground := Ground.data }], guard := none }) (v := ?_) rfl (by kernel_rfl) (by kernel_rfl) (by kernel_rfl) (fun _ _ _ h => h) (Or.inl ⟨by rfl, ?_⟩) (by assumption) ?_
              rotate_left
              · intro w hSw; (try dsimp only at hSw); go_simp; (try with_reducible rfl)
              try simp only [Act.put, List.setIfInBounds_toArray, List.set_cons_zero, List.set_cons_succ]
              refine wpAnyH_ready (rs := [9]) (by kernel_rfl) (by simp) ?_
              refine AllReadyH.cons (o := { dst := some 81, op := Op.load 67 (Operand.tmp 80), type := 67, pos := _, after := #[{ on := 8, ground := Ground.data }], guard := none }) rfl (fun K hK => ?_) AllReadyH.nil
              go_simp
              refine hK.out _ _ ?_ (fun hHeld => ?_)
              · trivial
              clear hK K
              try simp only [Act.put, List.setIfInBounds_toArray, List.set_cons_zero, List.set_cons_succ]
              refine wpAnyH_ready (rs := [11]) (by kernel_rfl) (by simp) ?_
              refine AllReadyH.cons (o := { dst := some 83, op := Op.call { callee := Callee.value (Operand.func 70), args := #[Operand.tmp 81, Operand.tmp 82], argTypes := #[67, 25] }, type := 4, pos := _, after := #[{ on := 9, ground := Ground.data }, { on := 10, ground := Ground.data }], guard := none }) rfl (fun K hK => ?_) AllReadyH.nil
              go_simp
              with_reducible refine (HCL6.out _ ?_).mono ?_
              · exact below_drewN (Below.refl _ _) 1
              rintro e w7 ⟨rfl, hb7⟩
              have hb7 := below_of_drew hb7
              have T7 := Lib.hid (T6.out.keep hb7)
              have V7 := Lib.hid (V6.out.keep hb7)
              obtain ⟨j0, j1, j2⟩ := T7.out.cells
              rw [HNI.out] at j0
              have cW7 := V7.out.cell hfm
              have fW7 := V7.out.own.frozenAt (NI + i)
              have hz7 := V7.out.below.size
              clear hb7
              refine hK.out _ _ ?_ (fun hHeld => ?_)
              · trivial
              clear hK K
              try simp only [Act.put, List.setIfInBounds_toArray, List.set_cons_zero, List.set_cons_succ]
              refine wpAnyH_ready (rs := [12]) (by kernel_rfl) (by simp) ?_
              refine AllReadyH.cons (o := { dst := some 84, op := Op.indexAddr 25 (Operand.tmp 72) (Operand.tmp 76), type := 0, pos := _, after := #[{ on := 0, ground := Ground.data }, { on := 4, ground := Ground.data }, { on := 0, ground := Ground.phase }, { on := 1, ground := Ground.phase }, { on := 2, ground := Ground.phase }, { on := 3, ground := Ground.phase }, { on := 4, ground := Ground.phase }, { on := 5, ground := Ground.phase }, { on := 6, ground := Ground.phase }, { on := 7, ground := Ground.phase }, { on := 8, ground := Ground.phase }, { on := 9, ground := Ground.phase }, { on := 10, ground := Ground.phase }, { on := 11, ground := Ground.phase }], guard := none }) rfl (fun K hK => ?_) AllReadyH.nil
              go_simp
              refine hK.out _ _ ?_ (fun hHeld => ?_)
              · trivial
              clear hK K
              try simp only [Act.put, List.setIfInBounds_toArray, List.set_cons_zero, List.set_cons_succ]
              refine wpAnyH_ready (rs := [13]) (by kernel_rfl) (by simp) ?_
              refine AllReadyH.cons (o := { dst := none, op := Op.store 4 (Operand.tmp 84) (Operand.tmp 83), type := 0, pos := _, after := #[{ on := 12, ground := Ground.data }, { on := 11, ground := Ground.data }, { on := 11, ground := Ground.chain }, { on := 0, ground := Ground.phase }, { on := 1, ground := Ground.phase }, { on := 2, ground := Ground.phase }, { on := 3, ground := Ground.phase }, { on := 4, ground := Ground.phase }, { on := 5, ground := Ground.phase }, { on := 6, ground := Ground.phase }, { on := 7, ground := Ground.phase }, { on := 8, ground := Ground.phase }, { on := 9, ground := Ground.phase }, { on := 10, ground := Ground.phase }, { on := 11, ground := Ground.phase }], guard := none }) rfl (fun K hK => ?_) AllReadyH.nil
              go_simp
              refine hK.out _ _ ?_ (fun hHeld => ?_)
              · trivial
              clear hK K
              try simp only [Act.put, List.setIfInBounds_toArray, List.set_cons_zero, List.set_cons_succ]
              refine wpAnyH_done (by kernel_rfl) ?_ _
              clear hHeld
              have V8 := V7.out.set (NI + i) (valB bl tn Wq)
              rw [← HRUN.out] at V8
              have V8 := Lib.hid V8
              go_wp2_with fail
              go_roundw
              case rel => exact ⟨q + 1, by omega, by go_num, V8.out⟩
              case measure => simp [intOf]; omega
            · skip
              go_simp
              refine hK.out _ _ ?_ (fun hHeld => ?_)
              · trivial
              clear hK K
              try simp only [Act.put, List.setIfInBounds_toArray, List.set_cons_zero, List.set_cons_succ]
              refine wpAnyH_ready (rs := [2, 11]) (by kernel_rfl) (by simp) ?_
              refine AllReadyH.cons (o := { dst := some 74, op := Op.load 3 (Operand.tmp 73), type := 3, pos := _, after := #[{ on := 1, ground := Ground.data }], guard := none }) rfl (fun K hK => ?_) (AllReadyH.cons (o := { dst := some 83, op := Op.call { callee := Callee.value (Operand.func 70), args := #[Operand.tmp 81, Operand.tmp 82], argTypes := #[67, 25] }, type := 4, pos := _, after := #[{ on := 9, ground := Ground.data }, { on := 10, ground := Ground.data }], guard := none }) rfl (fun K hK => ?_) AllReadyH.nil)
              · skip
                go_simp
                refine hK.out _ _ ?_ (fun hHeld => ?_)
                · trivial
                clear hK K
                try simp only [Act.put, List.setIfInBounds_toArray, List.set_cons_zero, List.set_cons_succ]
                refine wpAnyH_take (i := 4) (oi := { dst := some 76, op := Op.binOp BinOp.add 3 (Operand.tmp 74) (Operand.tmp 75) 3, type := 3, pos := _, after := #[{ on := 2, ground := Ground.data }, { on := 3, ground := Ground.data }], guard := none }) (v := ?_) rfl (by kernel_rfl) (by kernel_rfl) (by kernel_rfl) (fun _ _ _ h => h) (Or.inl ⟨by rfl, ?_⟩) (by assumption) ?_
                rotate_left
                · intro w hSw; (try dsimp only at hSw); go_simp; (try with_reducible rfl)
                try simp only [Act.put, List.setIfInBounds_toArray, List.set_cons_zero, List.set_cons_succ]
                refine wpAnyH_ready (rs := [11]) (by kernel_rfl) (by simp) ?_
                refine AllReadyH.cons (o := { dst := some 83, op := Op.call { callee := Callee.value (Operand.func 70), args := #[Operand.tmp 81, Operand.tmp 82], argTypes := #[67, 25] }, type := 4, pos := _, after := #[{ on := 9, ground := Ground.data }, { on := 10, ground := Ground.data }], guard := none }) rfl (fun K hK => ?_) AllReadyH.nil
                go_simp
                with_reducible refine (HCL6.out _ ?_).mono ?_
                · exact below_drewN (Below.refl _ _) 1
                rintro e w7 ⟨rfl, hb7⟩
                have hb7 := below_of_drew hb7
                have T7 := Lib.hid (T6.out.keep hb7)
                have V7 := Lib.hid (V6.out.keep hb7)
                obtain ⟨j0, j1, j2⟩ := T7.out.cells
                rw [HNI.out] at j0
                have cW7 := V7.out.cell hfm
                have fW7 := V7.out.own.frozenAt (NI + i)
                have hz7 := V7.out.below.size
                clear hb7
                refine hK.out _ _ ?_ (fun hHeld => ?_)
                · trivial
                clear hK K
                try simp only [Act.put, List.setIfInBounds_toArray, List.set_cons_zero, List.set_cons_succ]
                refine wpAnyH_ready (rs := [12]) (by kernel_rfl) (by simp) ?_
                refine AllReadyH.cons (o := { dst := some 84, op := Op.indexAddr 25 (Operand.tmp 72) (Operand.tmp 76), type := 0, pos := _, after := #[{ on := 0, ground := Ground.data }, { on := 4, ground := Ground.data }, { on := 0, ground := Ground.phase }, { on := 1, ground := Ground.phase }, { on := 2, ground := Ground.phase }, { on := 3, ground := Ground.phase }, { on := 4, ground := Ground.phase }, { on := 5, ground := Ground.phase }, { on := 6, ground := Ground.phase }, { on := 7, ground := Ground.phase }, { on := 8, ground := Ground.phase }, { on := 9, ground := Ground.phase }, { on := 10, ground := Ground.phase }, { on := 11, ground := Ground.phase }], guard := none }) rfl (fun K hK => ?_) AllReadyH.nil
                go_simp
                refine hK.out _ _ ?_ (fun hHeld => ?_)
                · trivial
                clear hK K
                try simp only [Act.put, List.setIfInBounds_toArray, List.set_cons_zero, List.set_cons_succ]
                refine wpAnyH_ready (rs := [13]) (by kernel_rfl) (by simp) ?_
                refine AllReadyH.cons (o := { dst := none, op := Op.store 4 (Operand.tmp 84) (Operand.tmp 83), type := 0, pos := _, after := #[{ on := 12, ground := Ground.data }, { on := 11, ground := Ground.data }, { on := 11, ground := Ground.chain }, { on := 0, ground := Ground.phase }, { on := 1, ground := Ground.phase }, { on := 2, ground := Ground.phase }, { on := 3, ground := Ground.phase }, { on := 4, ground := Ground.phase }, { on := 5, ground := Ground.phase }, { on := 6, ground := Ground.phase }, { on := 7, ground := Ground.phase }, { on := 8, ground := Ground.phase }, { on := 9, ground := Ground.phase }, { on := 10, ground := Ground.phase }, { on := 11, ground := Ground.phase }], guard := none }) rfl (fun K hK => ?_) AllReadyH.nil
                go_simp
                refine hK.out _ _ ?_ (fun hHeld => ?_)
                · trivial
                clear hK K
                try simp only [Act.put, List.setIfInBounds_toArray, List.set_cons_zero, List.set_cons_succ]
                refine wpAnyH_done (by kernel_rfl) ?_ _
                clear hHeld
                have V8 := V7.out.set (NI + i) (valB bl tn Wq)
                rw [← HRUN.out] at V8
                have V8 := Lib.hid V8
                go_wp2_with fail
                go_roundw
                case rel => exact ⟨q + 1, by omega, by go_num, V8.out⟩
                case measure => simp [intOf]; omega
              · skip
                go_simp
                with_reducible refine (HCL6.out _ ?_).mono ?_
                · exact below_drewN (Below.refl _ _) 1
                rintro e w7 ⟨rfl, hb7⟩
                have hb7 := below_of_drew hb7
                have T7 := Lib.hid (T6.out.keep hb7)
                have V7 := Lib.hid (V6.out.keep hb7)
                obtain ⟨j0, j1, j2⟩ := T7.out.cells
                rw [HNI.out] at j0
                have cW7 := V7.out.cell hfm
                have fW7 := V7.out.own.frozenAt (NI + i)
                have hz7 := V7.out.below.size
                clear hb7
                refine hK.out _ _ ?_ (fun hHeld => ?_)
                · trivial
                clear hK K
                try simp only [Act.put, List.setIfInBounds_toArray, List.set_cons_zero, List.set_cons_succ]
                refine wpAnyH_ready (rs := [2]) (by kernel_rfl) (by simp) ?_
                refine AllReadyH.cons (o := { dst := some 74, op := Op.load 3 (Operand.tmp 73), type := 3, pos := _, after := #[{ on := 1, ground := Ground.data }], guard := none }) rfl (fun K hK => ?_) AllReadyH.nil
                go_simp
                refine hK.out _ _ ?_ (fun hHeld => ?_)
                · trivial
                clear hK K
                try simp only [Act.put, List.setIfInBounds_toArray, List.set_cons_zero, List.set_cons_succ]
                refine wpAnyH_take (i := 4) (oi := { dst := some 76, op := Op.binOp BinOp.add 3 (Operand.tmp 74) (Operand.tmp 75) 3, type := 3, pos := _, after := #[{ on := 2, ground := Ground.data }, { on := 3, ground := Ground.data }], guard := none }) (v := ?_) rfl (by kernel_rfl) (by kernel_rfl) (by kernel_rfl) (fun _ _ _ h => h) (Or.inl ⟨by rfl, ?_⟩) (by assumption) ?_
                rotate_left
                · intro w hSw; (try dsimp only at hSw); go_simp; (try with_reducible rfl)
                try simp only [Act.put, List.setIfInBounds_toArray, List.set_cons_zero, List.set_cons_succ]
                refine wpAnyH_ready (rs := [12]) (by kernel_rfl) (by simp) ?_
                refine AllReadyH.cons (o := { dst := some 84, op := Op.indexAddr 25 (Operand.tmp 72) (Operand.tmp 76), type := 0, pos := _, after := #[{ on := 0, ground := Ground.data }, { on := 4, ground := Ground.data }, { on := 0, ground := Ground.phase }, { on := 1, ground := Ground.phase }, { on := 2, ground := Ground.phase }, { on := 3, ground := Ground.phase }, { on := 4, ground := Ground.phase }, { on := 5, ground := Ground.phase }, { on := 6, ground := Ground.phase }, { on := 7, ground := Ground.phase }, { on := 8, ground := Ground.phase }, { on := 9, ground := Ground.phase }, { on := 10, ground := Ground.phase }, { on := 11, ground := Ground.phase }], guard := none }) rfl (fun K hK => ?_) AllReadyH.nil
                go_simp
                refine hK.out _ _ ?_ (fun hHeld => ?_)
                · trivial
                clear hK K
                try simp only [Act.put, List.setIfInBounds_toArray, List.set_cons_zero, List.set_cons_succ]
                refine wpAnyH_ready (rs := [13]) (by kernel_rfl) (by simp) ?_
                refine AllReadyH.cons (o := { dst := none, op := Op.store 4 (Operand.tmp 84) (Operand.tmp 83), type := 0, pos := _, after := #[{ on := 12, ground := Ground.data }, { on := 11, ground := Ground.data }, { on := 11, ground := Ground.chain }, { on := 0, ground := Ground.phase }, { on := 1, ground := Ground.phase }, { on := 2, ground := Ground.phase }, { on := 3, ground := Ground.phase }, { on := 4, ground := Ground.phase }, { on := 5, ground := Ground.phase }, { on := 6, ground := Ground.phase }, { on := 7, ground := Ground.phase }, { on := 8, ground := Ground.phase }, { on := 9, ground := Ground.phase }, { on := 10, ground := Ground.phase }, { on := 11, ground := Ground.phase }], guard := none }) rfl (fun K hK => ?_) AllReadyH.nil
                go_simp
                refine hK.out _ _ ?_ (fun hHeld => ?_)
                · trivial
                clear hK K
                try simp only [Act.put, List.setIfInBounds_toArray, List.set_cons_zero, List.set_cons_succ]
                refine wpAnyH_done (by kernel_rfl) ?_ _
                clear hHeld
                have V8 := V7.out.set (NI + i) (valB bl tn Wq)
                rw [← HRUN.out] at V8
                have V8 := Lib.hid V8
                go_wp2_with fail
                go_roundw
                case rel => exact ⟨q + 1, by omega, by go_num, V8.out⟩
                case measure => simp [intOf]; omega
      have hkF : k < P.flops.length := by rw [HNF.out]; exact hlt
      have hf1 := flops_lt hkF
      obtain ⟨aF, haF, -, cF1⟩ := (HRF.out.later V4.out.below).int hkF
      subst haF
      rw [natI_getD] at cF1
      obtain ⟨aS, haS, -, cS1⟩ := ((HRS.out.later T2.out.below).later V4.out.below).bool (k := k) (by have := G2.out; omega)
      subst haS
      have hG2 : (k : Int) < (ls.length : Int) := by have := G2.out; omega
      have hst : stTo NI P.flops ls (li ++ List.replicate P.bs.length false) (k + 1) = (stTo NI P.flops ls (li ++ List.replicate P.bs.length false) k).set (NI + P.flops.getD k 0) (ls.getD k false) := rfl
      generalize P.flops.getD k 0 = f at hf1 cF1 hst
      generalize ls.getD k false = b at cS1 hst
      obtain ⟨gW, rfl, hg1, hg2⟩ := own_some V4.out.own (by omega)
      have hfm : NI + f < m := by omega
      have cW1 := V4.out.cell hfm
      have fW1 := V4.out.own.frozenAt (NI + f)
      have V5 := Lib.hid (V4.out.set (NI + f) b)
      rw [← hst] at V5
      clear hst
      generalize stTo NI P.flops ls (li ++ List.replicate P.bs.length false) k = Wk at cW1 V4
      have hix : (NI : Int) + (f : Int) < (m : Int) := by omega
      have hto : ((NI : Int) + (f : Int)).toNat = NI + f := by omega
      go_wp2_with fail
      go_region
      go_wp2_with fail
      go_roundw
      case rel => exact ⟨k + 1, by omega, by go_num, V5.out.drew 1⟩
      case measure => simp [intOf]; omega
theorem eval_any (P : PK) (IA : Option Addr) (cI : Nat) (li : List Bool) (SA : Option Addr) (cS : Nat) (ls : List Bool) (w : World) (hin : P.In w) (hf : P.fit)
    (hri : Rd w 1 IA li.length cI (bools li)) (hrs : Rd w 1 SA ls.length cS (bools ls)) (hli : li.length ≤ 100000) (hls : ls.length ≤ 100000) : EVAL P IA cI li SA cS ls w (EvalOut P li ls w) := by
  by_cases h : P.may ∧ ∃ m, All (depE P.E) P.S m
  · exact eval_yes P IA cI li SA cS ls w hin hf h.1 h.2 hri hrs hli hls
  · exact eval_no P IA cI li SA cS ls w hin hf h

end Go.Proofs.YtoloaecbfglaeaaGreat

namespace Go.Proofs.YtoloaecbfglaeaaGreat
open Go.RowKit Topo
set_option linter.unusedVariables false
set_option linter.unusedSimpArgs false

theorem mem_edTo {I : Int} {bs : List BL} {i c : Nat} {x : Int} (hi : ffAt bs i = false) (hx : x ∈ inL bs i) (hc : ffAt bs c = false) (he : x - I = (c : Int)) : ∀ K, i < K → (c, i) ∈ edTo I bs K
  | 0, h => absurd h (by omega)
  | K + 1, h => by
    simp only [edTo, List.mem_append]
    by_cases hk : i = K
    · subst hk
      right
      rw [if_neg (by rw [hi]; decide)]
      refine List.mem_flatMap.2 ⟨x, hx, ?_⟩
      have h2 : (x - I).toNat = c := by omega
      unfold edOf
      rw [h2, if_pos ⟨by omega, hc⟩]
      exact List.mem_singleton.2 rfl
    · exact .inl (mem_edTo hi hx hc he K (by omega))
theorem mem_E {P : PK} {i c : Nat} {x : Int} (hi : P.S i) (hx : x ∈ inL P.bs i) (hc : P.S c) (he : x - P.I = (c : Int)) : c ∈ depE P.E i := mem_depE.2 (mem_edTo hi hx hc he _ (PK.S_lt hi))
theorem atV_same {l : List Int} {W W' : List Bool} (h : ∀ x ∈ l, W.getD x.toNat false = W'.getD x.toNat false) : ∀ k, k ≤ l.length → atV l W k = atV l W' k
  | 0, _ => rfl
  | k + 1, hk => by
    have hm : l.getD k 0 ∈ l := by
      rw [List.getD_eq_getElem?_getD, List.getElem?_eq_getElem (show k < l.length by omega)]
      exact List.getElem_mem _
    simp only [atV]
    rw [atV_same h k (by omega), h _ hm]
theorem valB_same {l : List Int} {t : Nat} {W W' : List Bool} (h : ∀ x ∈ l, W.getD x.toNat false = W'.getD x.toNat false) : valB l t W = valB l t W' := by
  unfold valB; rw [atV_same h _ (Nat.le_refl _)]
theorem may_in {P : PK} (hm : P.may) {i : Nat} {x : Int} (hx : x ∈ inL P.bs i) : 0 ≤ x ∧ x < P.N := by
  by_cases hi : i < P.bs.length
  · rw [inL_get hi] at hx
    exact any_bad_no (hm.2.2.2.1 _ (List.getElem_mem hi)).2.1 x hx
  · unfold inL at hx
    rw [List.getElem?_eq_none (by omega)] at hx
    simp at hx
/-- a block's value hangs on the blocks it hangs on -/
theorem val_dep {P : PK} (hm : P.may) {b : Nat} (hb : P.S b) {u w : List Bool} (h : ∀ j, (∀ c, P.S c → c ∉ depE P.E b → P.I.toNat + c ≠ j) → u.getD j false = w.getD j false) : P.val b u = P.val b w := by
  unfold PK.val
  refine valB_same (fun x hx => h _ (fun c hc hn he => hn ?_))
  have h1 := may_in hm hx
  have h2 := hm.1
  exact mem_E hb hx hc (by omega)
theorem w1_length (P : PK) (li ls : List Bool) : (P.w1 li ls).length = li.length + P.bs.length := by
  unfold PK.w1; rw [stTo_length]; simp
theorem w2_length (P : PK) (O : List Nat) (li ls : List Bool) : (P.w2 O li ls).length = li.length + P.bs.length := by
  unfold PK.w2; rw [runL_length, w1_length]
theorem w2_same {P : PK} (hm : P.may) {O O' : List Nat} (h : All (depE P.E) P.S O) (h' : All (depE P.E) P.S O') {li : List Bool} (hl : (li.length : Int) = P.I) (ls : List Bool) : P.w2 O li ls = P.w2 O' li ls :=
  runL_same h h' (N := P.bs.length) (fun b hb => PK.S_lt hb) (fun b u w hb he => val_dep hm hb he) _ (by rw [w1_length]; omega)

/-- what a row of inputs tells, and what is kept -/
def PK.tell (P : PK) (O : List Nat) (st li : List Bool) : List Bool := P.outs.map (fun n => (P.w2 O li st).getD n.toNat false)
def PK.keep (P : PK) (O : List Nat) (st li : List Bool) : List Bool := P.flops.map (fun i => P.val i (P.w2 O li st))
theorem PK.keep_length (P : PK) (O : List Nat) (st li : List Bool) : (P.keep O st li).length = P.flops.length := by simp [PK.keep]
def itAt (bs : List BL) (k : Nat) : Bool := match bs[k]? with | some b => b.it | none => false
theorem itAt_get {bs : List BL} {k : Nat} (h : k < bs.length) : itAt bs k = bs[k].it := by unfold itAt; rw [List.getElem?_eq_getElem h]
def PK.first (P : PK) : List Bool := P.flops.map (itAt P.bs)
theorem PK.first_length (P : PK) : P.first.length = P.flops.length := by simp [PK.first]
/-- the state after some rows -/
def PK.stAt (P : PK) (O : List Nat) (L : List (List Bool)) : Nat → List Bool
  | 0 => P.first
  | k + 1 => P.keep O (P.stAt O L k) (L.getD k [])
theorem PK.stAt_length (P : PK) (O : List Nat) (L : List (List Bool)) (k : Nat) : (P.stAt O L k).length = P.flops.length := by
  cases k with
  | zero => exact P.first_length
  | succ k => exact P.keep_length _ _ _
/-- what they tell row by row -/
def PK.play (P : PK) (O : List Nat) (L : List (List Bool)) : List (List Bool) := (List.range L.length).map (fun k => P.tell O (P.stAt O L k) (L.getD k []))
end Go.Proofs.YtoloaecbfglaeaaGreat

namespace Go.Proofs.YtoloaecbfglaeaaGreat
open Go.RowKit Topo
set_option linter.unusedVariables false
set_option linter.unusedSimpArgs false

/-- a row of bits, where it lies -/
structure BR where
  A : Option Addr
  c : Nat
  l : List Bool
def BR.v (b : BR) : Value := .slice b.A b.l.length b.c
structure RowsIn (A : Option Addr) (c : Nat) (L : List BR) (w : World) : Prop where
  rows : Rd w 1 A L.length c (L.map BR.v)
  each : ∀ b ∈ L, Rd w 1 b.A b.l.length b.c (bools b.l)
theorem RowsIn.later {A : Option Addr} {c : Nat} {L : List BR} {w w' : World} (h : RowsIn A c L w) (hb : Below w.heap.size w w') : RowsIn A c L w' := ⟨h.rows.later hb, fun b hm => (h.each b hm).later hb⟩
theorem RowsIn.nil (w : World) : RowsIn none 0 [] w := ⟨Rd.empty, fun b hb => (nomatch hb)⟩
theorem RowsIn.row {A : Option Addr} {c : Nat} {L : List BR} {w : World} (h : RowsIn A c L w) {k : Nat} (hk : k < L.length) : ∃ a, A = some a ∧ a.block < w.heap.size ∧ w.cell? (a.add k) = some (.slice L[k].A L[k].l.length L[k].c) ∧ Rd w 1 L[k].A L[k].l.length L[k].c (bools L[k].l) := by
  obtain ⟨a, e, h1, h2⟩ := h.rows.read k L[k].v (by simp [hk])
  exact ⟨a, e, h1, h2, h.each _ (List.getElem_mem hk)⟩
/-- rows that lie in blocks from some on -/
def RowsHi (base : Nat) (A : Option Addr) (R : List BR) : Prop := (∀ a, A = some a → base ≤ a.block) ∧ ∀ b ∈ R, ∀ a, b.A = some a → base ≤ a.block
theorem RowsHi.nil (base : Nat) : RowsHi base none [] := ⟨fun a h => (nomatch h), fun b hb => (nomatch hb)⟩
theorem RowsHi.le {base base' : Nat} {A : Option Addr} {R : List BR} (h : RowsHi base A R) (hb : base' ≤ base) : RowsHi base' A R := ⟨fun a e => Nat.le_trans hb (h.1 a e), fun b hm a e => Nat.le_trans hb (h.2 b hm a e)⟩
theorem Rd.setLow {w : World} {s : Nat} {A : Option Addr} {n c : Nat} {xs : List Value} (h : Rd w s A n c xs) {g i : Nat} {u : Value} (hA : ∀ a, A = some a → g < a.block) : Rd (w.setCell ⟨g, i, none⟩ u) s A n c xs := by
  refine ⟨h.len, h.cap, h.nil, fun j v hj => ?_⟩
  obtain ⟨a, e, h1, h2⟩ := h.read j v hj
  refine ⟨a, e, by simpa using h1, ?_⟩
  rw [World.cell?_setCell_other _ _ _ _ (fun he => by have := congrArg Addr.block he; rw [add_block] at this; have := hA a e; simp at *; omega)]
  exact h2
theorem RowsIn.setLow {A : Option Addr} {c : Nat} {L : List BR} {w : World} (h : RowsIn A c L w) {base g i : Nat} {u : Value} (hi : RowsHi base A L) (hg : g < base) : RowsIn A c L (w.setCell ⟨g, i, none⟩ u) :=
  ⟨h.rows.setLow (fun a e => Nat.lt_of_lt_of_le hg (hi.1 a e)), fun b hb => (h.each b hb).setLow (fun a e => Nat.lt_of_lt_of_le hg (hi.2 b hb a e))⟩
/-- what running answers -/
def RunR (P : PK) (L rs : List (List Bool)) (x : Int) : Prop :=
  (ChkR P x ∧ x ≠ 0 ∧ rs = []) ∨ (ChkR P 0 ∧ (∃ l ∈ L, (l.length : Int) ≠ P.I) ∧ x = 1 ∧ rs = []) ∨ (x = 0 ∧ P.may ∧ (∀ l ∈ L, (l.length : Int) = P.I) ∧ ∃ O, All (depE P.E) P.S O ∧ rs = P.play O L)
def RunOut (P : PK) (L : List (List Bool)) (w : World) (e : Ending) (w' : World) : Prop :=
  ∃ (A : Option Addr) (c : Nat) (R : List BR) (x : Int), e = .returned (.tuple #[.slice A R.length c, .int .i64 x]) ∧ Below w.heap.size w w' ∧ RowsIn A c R w' ∧ RowsHi w.heap.size A R ∧ RunR P L (R.map (·.l)) x
theorem RunOut.err {P : PK} {L : List (List Bool)} {w w' : World} {x : Int} (hb : Below w.heap.size w w') (h : RunR P L [] x) : RunOut P L w (.returned (.tuple #[.slice none 0 0, .int .i64 x])) w' := ⟨none, 0, [], x, rfl, hb, RowsIn.nil _, RowsHi.nil _, h⟩
theorem eval_fix {P : PK} (hm : P.may) {O : List Nat} (hO : All (depE P.E) P.S O) {li ls o nx : List Bool} {x : Int} (hls : ls.length = P.flops.length) (h : EvalR P li ls o nx x) :
    ((li.length : Int) ≠ P.I ∧ x = 1 ∧ o = [] ∧ nx = []) ∨ ((li.length : Int) = P.I ∧ x = 0 ∧ o = P.tell O ls li ∧ nx = P.keep O ls li) := by
  have h0 : ChkR P 0 := .inl ⟨rfl, hm, O, hO⟩
  rcases h with ⟨h1, h2, -, -⟩ | ⟨-, h1, h2, h3, h4⟩ | ⟨h1, -, h2, -, O', h3, h4, h5⟩
  · exact absurd (h1.one h0) h2
  · exact .inl ⟨h1.resolve_right (fun h => h hls), h2, h3, h4⟩
  · have e := w2_same hm h3 hO h2 ls
    exact .inr ⟨h2, h1, by rw [h4, e]; rfl, by rw [h5, e]; rfl⟩
/-- the first k rows -/
def PK.told (P : PK) (O : List Nat) (L : List (List Bool)) (k : Nat) : List (List Bool) := (List.range k).map (fun k => P.tell O (P.stAt O L k) (L.getD k []))
theorem PK.told_next (P : PK) (O : List Nat) (L : List (List Bool)) (k : Nat) : P.told O L (k + 1) = P.told O L k ++ [P.tell O (P.stAt O L k) (L.getD k [])] := by simp [PK.told, List.range_succ]
def holdRow (R : List BR) (n : Nat) : Array Value := (R.map BR.v ++ List.replicate (n - R.length) (Value.slice none 0 0)).toArray
theorem holdRow_start (n : Nat) : holdRow [] n = Array.replicate n (Value.slice none 0 0) := by simp [holdRow]
theorem holdRow_next {R : List BR} {n : Nat} (h : R.length < n) (b : BR) : (holdRow R n).setIfInBounds R.length b.v = holdRow (R ++ [b]) n := by
  unfold holdRow
  obtain ⟨m, hm⟩ : ∃ m, n - R.length = m + 1 := ⟨n - R.length - 1, by omega⟩
  have hm2 : n - (R ++ [b]).length = m := by simp; omega
  rw [hm, hm2, List.replicate_succ]
  simp only [List.setIfInBounds_toArray, List.map_append, List.map_cons, List.map_nil, List.append_assoc, List.cons_append, List.nil_append]
  congr 1
  rw [List.set_append_right _ _ (by simp)]
  simp
theorem holdRow_get {R : List BR} {n : Nat} (h : R.length < n) : (holdRow R n)[R.length]? = some (.slice none 0 0) := by
  unfold holdRow
  rw [List.getElem?_toArray, List.getElem?_append_right (by simp), show R.length - (R.map BR.v).length = 0 by simp, List.getElem?_replicate, if_pos (by omega)]
structure RunW (w wx : World) (gO n : Nat) (R : List BR) (A : Option Addr) (c : Nat) (st : List Bool) : Prop where
  below : Below w.heap.size w wx
  ge : w.heap.size ≤ gO
  out : Blk wx gO 25 (holdRow R n)
  st : wx.ownsRow w.heap.size 4 1 (.slice A st.length c) st.length (bools st)
  each : ∀ b ∈ R, wx.ownsRow w.heap.size 4 1 b.v b.l.length (bools b.l)
section
variable {w wx wy : World} {gO n : Nat} {R : List BR} {A : Option Addr} {c : Nat} {st : List Bool}
theorem RunW.keep (h : RunW w wx gO n R A c st) (hb : Below wx.heap.size wx wy) : RunW w wy gO n R A c st := ⟨below_then h.below hb, h.ge, h.out.keep hb, own_keep h.st hb, fun b hm => own_keep (h.each b hm) hb⟩
theorem RunW.put (h : RunW w wx gO n R A c st) (hn : R.length < n) {b : BR} (hb : wx.ownsRow w.heap.size 4 1 b.v b.l.length (bools b.l)) {A' : Option Addr} {c' : Nat} {st' : List Bool} (hs : wx.ownsRow w.heap.size 4 1 (.slice A' st'.length c') st'.length (bools st')) :
    RunW w (wx.setCell ⟨gO, R.length, none⟩ b.v) gO n (R ++ [b]) A' c' st' := by
  have ht : 4 ≠ 25 := by decide
  refine ⟨h.below.setCell (p := ⟨gO, R.length, none⟩) h.ge _, h.ge, ?_, ownsRow_setCell_other hs (a := ⟨gO, R.length, none⟩) (own_other hs h.out ht) _, fun x hx => ?_⟩
  · have := h.out.put R.length b.v
    rwa [holdRow_next hn] at this
  · rcases List.mem_append.1 hx with hx | hx
    · exact ownsRow_setCell_other (h.each x hx) (a := ⟨gO, R.length, none⟩) (own_other (h.each x hx) h.out ht) _
    · obtain rfl := List.mem_singleton.1 hx
      exact ownsRow_setCell_other hb (a := ⟨gO, R.length, none⟩) (own_other hb h.out ht) _
theorem RunW.hi (h : RunW w wx gO n R A c st) : RowsHi w.heap.size (some ⟨gO, 0, none⟩) R := by
  refine ⟨fun a e => ?_, fun b hb a e => own_base (h.each b hb) (by unfold BR.v; rw [e]; rfl)⟩
  injection e with e
  subst e
  exact h.ge
theorem RunW.rows (h : RunW w wx gO n R A c st) (hn : R.length = n) (hc : n ≤ 100000000) : RowsIn (some ⟨gO, 0, none⟩) n R wx := by
  subst hn
  refine ⟨⟨by simp, Nat.le_refl _, fun h => (nomatch h), fun j u hj => ⟨_, rfl, h.out.lt, ?_⟩⟩, fun b hb => Rd.of_own (h.each b hb)⟩
  rw [Addr.add_lit]
  have := h.out.cell j
  simp only [Nat.zero_add]
  rw [this]
  simpa [holdRow] using hj
end
set_option maxRecDepth 100000 in
set_option maxHeartbeats 4000000 in
theorem packRun_any (P : PK) (RA : Option Addr) (rc : Nat) (L : List BR) (w : World) (hin : P.In w) (hf : P.fit) (hL : RowsIn RA rc L w) (hn : L.length ≤ 1000) (hb : ∀ b ∈ L, b.l.length ≤ 100000) :
    Calls Tryz.prog 38 #[.agg #[.int .i64 P.I, .slice P.AB P.bs.length P.cB, .slice P.AO P.outs.length P.cO], .slice RA L.length rc] w (RunOut P (L.map (·.l)) w) := by
  have T0 := Lib.hid (MW.new w P)
  have hch := pchk_any P _ (hin.later T0.out.below) hf
  have HCH := Lib.hid hch
  have HIN := Lib.hid hin
  have HF := Lib.hid hf
  have HL := Lib.hid hL
  have HB := Lib.hid hb
  obtain ⟨LL, hLL⟩ : ∃ LL, L.map (·.l) = LL := ⟨_, rfl⟩
  have HLL := Lib.hid hLL
  obtain ⟨N, hN⟩ : ∃ N, L.length = N := ⟨_, rfl⟩
  have HN := Lib.hid hN
  rw [hN] at hn ⊢
  rw [hLL]
  have hcb : (Tryz.prog.info? 25).map (fun i => (i.zero, i.size, i.bytes)) = some (some (.slice none 0 0), 1, 24) := by kernel_rfl
  obtain ⟨i0, hi0, hz0, hz1, hz2⟩ := info_parts hcb
  have hmk : ∀ w : World, (Instr.makeSlice 42 (.int .i64 (N : Int)) (.int .i64 (N : Int))).run Tryz.prog w = .ok (.slice (some ⟨w.heap.size, 0, none⟩) N N) (w.alloc (.cells (Array.replicate N (.slice none 0 0)) 25)) := fun w => by
    have := run_make (P := Tryz.prog) w 42 25 i0 (.slice none 0 0) Tryz.underlying42 hi0 hz0 .i64 .i64 (N : Int) (N : Int) (by omega) (Int.le_refl _) (by rw [hz2]; omega) (by omega)
    rw [this, hz1]
    simp [Value.cells, made_eq]
  have HMK := Lib.hid hmk
  clear hch hin hf hL hb hLL hN hcb hi0 hz0 hz1 hz2 hmk
  go_enter Tryz.func38, Tryz.ntmps38
  go_wp2_with fail
  refine HCH.out.mono ?_
  rintro e w1 ⟨x, rfl, hx, hb1⟩
  have T1 := Lib.hid (T0.out.keep hb1)
  have HX := Lib.hid hx
  obtain ⟨k0, k1, k2⟩ := T1.out.cells
  clear hb1
  by_cases hx0 : x = 0
  case neg =>
    have hx0' : (x != 0) = true := by rw [bne_iff_ne]; exact hx0
    have HX0 := Lib.hid hx0
    clear hx hx0
    go_wp2_with fail
    refine bodyPost_ret (results_tmp2 Tryz.results38 _ _ _) rfl ?_
    exact RunOut.err T1.out.below (.inl ⟨HX.out, HX0.out, rfl⟩)
  subst hx0
  obtain ⟨hm, O, hO⟩ : P.may ∧ ∃ m, All (depE P.E) P.S m := by
    rcases hx with ⟨-, h1, h2⟩ | ⟨h, -⟩ | ⟨h, -⟩
    · exact ⟨h1, h2⟩
    · exact absurd h (by decide)
    · exact absurd h (by decide)
  have HM := Lib.hid hm
  have HO := Lib.hid hO
  have hfl := fun W (hB : Below w.heap.size w W) => flops_any P W (HIN.out.later hB) (by have := hm.2.2.1; omega)
  have HFL := Lib.hid hfl
  have hnb := hm.2.2.1
  have hfn := flopTo_len P.bs P.bs.length
  clear hx hm hO hfl
  go_wp2_with fail
  refine (HFL.out _ T1.out.below).mono ?_
  rintro e w2 ⟨AF, cF, rfl, hb2, hoF⟩
  have T2 := Lib.hid (T1.out.keep hb2)
  have HRF := Lib.hid (Rd.of_own hoF)
  obtain ⟨nF, hnF⟩ : ∃ n, P.flops.length = n := ⟨_, rfl⟩
  have HNF := Lib.hid hnF
  have hnF1 : nF ≤ P.bs.length := by rw [← hnF]; exact hfn
  obtain ⟨AB, hAB⟩ : ∃ A, P.AB = A := ⟨_, rfl⟩
  have HAB := Lib.hid hAB
  have hz2 : w.heap.size < w2.heap.size := T2.out.box.lt
  rw [hnF]
  clear hb2 hoF hnF hfn k0 k1 k2 hAB
  go_wp2_with fail
  go_loopw [7, 22] (fun v7 v22 wx => ∃ (k : Nat) (A : Option Addr) (c : Nat), k ≤ nF ∧ v22 = .int .i64 (k : Int) ∧ v7 = .slice A k c ∧ Below w2.heap.size w2 wx ∧ wx.ownsRow w2.heap.size 4 1 (.slice A k c) k (bools ((P.flops.take k).map (itAt P.bs)))) (fun _ v22 _ => nF - (intOf v22).toNat)
  case atStart => exact ⟨0, none, 0, by omega, rfl, rfl, Below.refl _ _, World.ownsRow_nil _ _ _ _⟩
  case round =>
    obtain ⟨k, A, c, hk, rfl, rfl, hB, hO⟩ := hrel
    have B3 := Lib.hid hB
    have O3 := Lib.hid hO
    have T3 := Lib.hid (T2.out.keep hB)
    have hz3 := hB.size
    have hl3 := take_map_len (itAt P.bs) (show k ≤ P.flops.length by have := HNF.out; omega)
    have HL3 := Lib.hid hl3
    clear hB hO hl3
    obtain ⟨j0, j1, j2⟩ := T3.out.cells
    by_cases hlt : k < nF
    case neg =>
      obtain rfl : k = nF := by omega
      rw [List.take_of_length_le (show P.flops.length ≤ k by have := HNF.out; omega)] at O3
      have hfl0 : P.first.length = k := by rw [P.first_length]; exact HNF.out
      obtain ⟨gO, hgO⟩ : ∃ g, wr.heap.size = g := ⟨_, rfl⟩
      have hmk := HMK.out wr
      have hwz := T3.out.below.size
      have V0 : RunW w (wr.alloc (.cells (Array.replicate N (.slice none 0 0)) 25)) wr.heap.size N [] A c P.first :=
        ⟨below_then T3.out.below (below_new _ _), hwz, by rw [holdRow_start]; exact Blk.made _ _ _, by rw [hfl0]; exact (own_base_le O3.out (by omega)).alloc _, fun b hb => (nomatch hb)⟩
      have hB0 : Below wr.heap.size wr (wr.alloc (.cells (Array.replicate N (.slice none 0 0)) 25)) := below_new _ _
      rw [hgO] at V0 hmk
      have V0 := Lib.hid V0
      have HB0 := Lib.hid hB0
      have HGO := Lib.hid hgO
      clear hfl0 hB0 hgO
      go_wp2_with fail
      go_loopw [7, 41] (fun v7 v41 wx => ∃ (q : Nat) (R : List BR) (A : Option Addr) (c : Nat), q ≤ N ∧ v41 = .int .i64 (q : Int) ∧ v7 = .slice A k c ∧ R.length = q ∧ (∀ l ∈ LL.take q, (l.length : Int) = P.I) ∧ R.map (·.l) = P.told O LL q ∧ Below wr.heap.size wr wx ∧ RunW w wx gO N R A c (P.stAt O LL q)) (fun _ v41 _ => N - (intOf v41).toNat)
      case atStart => exact ⟨0, [], A, c, by omega, rfl, rfl, rfl, fun l hl => (nomatch hl), rfl, HB0.out, V0.out⟩
      case round =>
        clear V0 HB0 hmk
        obtain ⟨q, R, A, c, hq, rfl, rfl, hRq, hall, htold, hB, hV⟩ := hrel
        have HRQ := Lib.hid hRq
        have HALL := Lib.hid hall
        have HTOLD := Lib.hid htold
        have B5 := Lib.hid hB
        have V5 := Lib.hid hV
        have T5 := Lib.hid (T3.out.keep hB)
        have hz5 := hV.below.size
        clear hRq hall htold hB hV
        by_cases hlt2 : q < N
        case neg =>
          obtain rfl : q = N := by omega
          go_wp2_with fail
          refine bodyPost_ret (results_tmp2 Tryz.results38 _ _ _) rfl ?_
          have hLL : LL.length = q := by rw [← HLL.out, List.length_map]; exact HN.out
          have ha := HALL.out
          rw [List.take_of_length_le (by omega)] at ha
          exact ⟨some ⟨gO, 0, none⟩, q, R, 0, by rw [HRQ.out]; rfl, T5.out.below, V5.out.rows HRQ.out (by omega), V5.out.hi, .inr (.inr ⟨rfl, HM.out, ha, O, HO.out, by rw [HTOLD.out]; unfold PK.told PK.play; rw [hLL]⟩)⟩
        have hlq : q < L.length := by have := HN.out; omega
        obtain ⟨aR, haR, habR, cR, hRl⟩ := (HL.out.later V5.out.below).row hlq
        have hbl := HB.out _ (List.getElem_mem hlq)
        have hget : LL[q]? = some L[q].l := by rw [← HLL.out, List.getElem?_map, List.getElem?_eq_getElem hlq]; rfl
        have hgetD : LL.getD q [] = L[q].l := by rw [List.getD_eq_getElem?_getD, hget]; rfl
        have hmem : L[q].l ∈ LL := List.mem_of_getElem? hget
        have htake : LL.take (q + 1) = LL.take q ++ [L[q].l] := by rw [List.take_add_one, hget]; rfl
        have hst1 : P.stAt O LL (q + 1) = P.keep O (P.stAt O LL q) (LL.getD q []) := rfl
        have htn := P.told_next O LL q
        have hsl := P.stAt_length O LL q
        rw [HNF.out] at hsl
        rw [hgetD] at hst1 htn
        subst haR
        generalize L[q] = b at cR hRl hbl hmem htake hst1 htn
        clear hget hgetD hlq
        obtain ⟨bA, bc, bl⟩ := b
        simp only at cR hRl hbl hmem htake hst1 htn
        generalize P.stAt O LL q = st at V5 hst1 htn hsl
        obtain ⟨m0, m1, m2⟩ := T5.out.cells
        have hev := eval_any P bA bc bl A c st wr (HIN.out.later T5.out.below) HF.out hRl (Rd.of_own V5.out.st) hbl (by omega)
        unfold EVAL at hev
        rw [hsl] at hev
        have HEV := Lib.hid hev
        have HSL := Lib.hid hsl
        have HMEM := Lib.hid hmem
        have HTAKE := Lib.hid htake
        have HST1 := Lib.hid hst1
        have HTN := Lib.hid htn
        clear hev hsl hmem htake hst1 htn hRl j0 j1 j2
        go_wp2_with fail
        refine HEV.out.mono ?_
        rintro e w7 ⟨oA, oc, o, nA, nc, nx, x, rfl, hb7, hoO, hoN, hR⟩
        have V7 := Lib.hid (V5.out.keep hb7)
        have B7 := Lib.hid (below_then B5.out hb7)
        have c7 := V7.out.out.cell q
        have f7 := V7.out.out.free q
        have hge := V5.out.ge
        rw [← HRQ.out, holdRow_get (by rw [HRQ.out]; exact hlt2), HRQ.out] at c7
        have hgp : Below w.heap.size w (w7.setCell ⟨gO, q, none⟩ (.slice oA o.length oc)) := V7.out.below.setCell (p := ⟨gO, q, none⟩) hge _
        have HGP := Lib.hid hgp
        have O7 := Lib.hid hoO
        have N7 := Lib.hid hoN
        have hfix := eval_fix HM.out HO.out (by rw [HSL.out]; exact HNF.out.symm) hR
        clear hb7 hoO hoN hR hgp
        by_cases hx1 : x = 0
        case neg =>
          have hx1' : (x != 0) = true := by rw [bne_iff_ne]; exact hx1
          obtain ⟨h1, rfl, -, -⟩ := hfix.resolve_right (fun h => hx1 h.2.1)
          have H1 := Lib.hid h1
          clear hfix h1
          go_wp2_with fail
          refine bodyPost_ret (results_tmp2 Tryz.results38 _ _ _) rfl ?_
          exact RunOut.err HGP.out (.inr (.inl ⟨.inl ⟨rfl, HM.out, O, HO.out⟩, ⟨bl, HMEM.out, H1.out⟩, rfl, rfl⟩))
        obtain ⟨h1, -, h3, h4⟩ := hfix.resolve_left (fun h => by have := h.2.1; omega)
        subst hx1
        have hnl : nx.length = k := by rw [h4, P.keep_length]; exact HNF.out
        have V8 := V7.out.put (by rw [HRQ.out]; exact hlt2) (b := ⟨oA, oc, o⟩) (own_base_le O7.out hz5) (own_base_le N7.out hz5)
        rw [HRQ.out] at V8
        have V8 := Lib.hid V8
        have B8 := Lib.hid (B7.out.setCell (p := ⟨gO, q, none⟩) (by rw [← HGO.out]; exact Nat.le_refl _) (.slice oA o.length oc))
        have H1 := Lib.hid h1
        have H3 := Lib.hid h3
        have H4 := Lib.hid h4
        rw [hnl]
        clear hfix h1 h3 h4 hnl
        go_wp2_with fail
        go_roundw
        case rel => exact ⟨q + 1, R ++ [⟨oA, oc, o⟩], nA, nc, by omega, by go_num, rfl, by rw [List.length_append, HRQ.out]; rfl, fun l hl => by
            rw [HTAKE.out] at hl
            rcases List.mem_append.1 hl with hl | hl
            · exact HALL.out l hl
            · rw [List.mem_singleton.1 hl]; exact H1.out, by rw [HTN.out, List.map_append, HTOLD.out, ← H3.out]; rfl, B8.out, by rw [HST1.out, ← H4.out]; exact V8.out⟩
        case measure => simp [intOf]; omega
    have hlt4 : k < P.flops.length := by have := HNF.out; omega
    have hi3 := flops_lt hlt4
    obtain ⟨aF, haF, -, cF1⟩ := (HRF.out.later B3.out).int hlt4
    subst haF
    rw [natI_getD] at cF1
    have hnx := take_map_next (itAt P.bs) hlt4
    rw [show P.flops[k] = P.flops.getD k 0 by rw [List.getD_eq_getElem?_getD, List.getElem?_eq_getElem hlt4]; rfl] at hnx
    generalize P.flops.getD k 0 = i at hi3 cF1 hnx
    obtain ⟨a, hA, hab, c0, c1, c2, c3⟩ := ((HIN.out.later T3.out.below).blocks).block hi3
    rw [HAB.out] at hA
    rw [HAB.out, hA] at j1
    rw [itAt_get hi3] at hnx
    generalize P.bs[i].it = b1 at c3 hnx
    generalize (P.flops.take k).map (itAt P.bs) = L3 at O3 HL3 hnx
    have HNX := Lib.hid hnx
    have B4 := Lib.hid (below_then B3.out (below_new wr (.cells #[.bool b1] 4)))
    clear hnx hA hlt4
    go_wp2_with (at_builtin; refine wpList_app_bools rfl (.tmp 26) (.tmp 33) rfl w2.heap.size A k c L3 rfl (O3.out.alloc _) (some ⟨wr.heap.size, 0, none⟩) 1 1 [b1] rfl (rd_bool1 wr _ b1) (by omega) (by simp; omega) ?_)
    intro A' c' w' hO' hg'
    have B5 := Lib.hid (B4.out.grown hg' (by simp; omega) (fun k hk => own_base O3.out hk))
    have O5 := Lib.hid hO'
    clear hO' hg'
    go_wp2_with fail
    go_roundw
    case rel => exact ⟨k + 1, A', c', by omega, by go_num, rfl, B5.out, by rw [HNX.out]; exact O5.out⟩
    case measure => simp [intOf]; omega

end Go.Proofs.YtoloaecbfglaeaaGreat

namespace Go.Proofs.YtoloaecbfglaeaaGreat
open Go.RowKit
set_option linter.unusedVariables false
set_option linter.unusedSimpArgs false

set_option maxRecDepth 100000 in
set_option maxHeartbeats 1000000 in
theorem sameBools_yes (w : World) (A B : Option Addr) (n c d : Nat) (l : List Bool) (ha : Rd w 1 A n c (bools l)) (hb : Rd w 1 B n d (bools l)) (hn : n ≤ 100000000) :
    Calls Tryz.prog 14 #[.slice A n c, .slice B n d] w fun e w' => e = .returned (.bool true) ∧ Below w.heap.size w w' := by
  have HA := Lib.hid ha
  have HB := Lib.hid hb
  have hl : l.length = n := by have := ha.len; rw [bools_length] at this; omega
  have HL := Lib.hid hl
  clear ha hb hl
  go_enter Tryz.func14, Tryz.ntmps14
  go_wp2_with fail
  go_loopw [13] (fun i wx => ∃ k : Nat, k ≤ n ∧ i = .int .i64 (k : Int) ∧ Below w.heap.size w wx) (fun i _ => n - (intOf i).toNat)
  case atStart => exact ⟨0, by omega, rfl, Below.refl _ _⟩
  case round =>
    obtain ⟨k, hk, rfl, hbb⟩ := hrel
    have HBB := Lib.hid hbb
    clear hbb
    by_cases hlt : k < n
    · obtain ⟨a, rfl, -, c0⟩ := (HA.out.later HBB.out).bool (k := k) (by have := HL.out; omega)
      obtain ⟨b, rfl, -, c1⟩ := (HB.out.later HBB.out).bool (k := k) (by have := HL.out; omega)
      generalize l.getD k false = z at c0 c1
      have h0 : (0 : Int) ≤ (k : Int) := by omega
      have h1 : (k : Int) < (n : Int) := by omega
      go_wp2_with fail
      go_quiet (fail)
      go_wp2_with fail
      go_roundw
      case rel => exact ⟨k + 1, by omega, by go_num, below_drewN HBB.out _⟩
      case measure => simp [intOf]; omega
    · obtain rfl : k = n := by omega
      go_wp2_with fail
      go_ret
      exact ⟨rfl, HBB.out⟩

/-- few rows, each of few -/
def fewR (L : List BR) (m : Int) : Prop := (∀ b ∈ L, b.l.length ≤ 200) ∧ (L.length : Int) ≤ m
instance (L : List BR) (m : Int) : Decidable (fewR L m) := by unfold fewR; infer_instance
set_option maxRecDepth 100000 in
set_option maxHeartbeats 1000000 in
theorem fewRows_any (w : World) (A : Option Addr) (c : Nat) (L : List BR) (m : Int) (h : RowsIn A c L w) (hn : L.length ≤ maxLen) (hm : 0 ≤ m ∧ m ≤ 100000) (hb : ∀ b ∈ L, b.l.length ≤ maxLen) :
    Calls Tryz.prog 15 #[.slice A L.length c, .int .i64 m] w fun e w' => e = .returned (.bool (decide (fewR L m))) ∧ w = w' := by
  have HA := Lib.hid h
  have HB := Lib.hid hb
  obtain ⟨n, hL⟩ : ∃ n, L.length = n := ⟨_, rfl⟩
  have HL := Lib.hid hL
  rw [hL] at hn ⊢
  unfold maxLen at hn
  obtain ⟨v, hv⟩ : ∃ v, decide (fewR L m) = v := ⟨_, rfl⟩
  have HV := Lib.hid hv
  rw [hv]
  clear h hb hL hv
  go_enter Tryz.func15, Tryz.ntmps15
  go_wp2_with fail
  go_loop [9] (fun i => ∃ k : Nat, k ≤ n ∧ i = .int .i64 (k : Int) ∧ ∀ b ∈ L.take k, b.l.length ≤ 200) (fun i => n - (intOf i).toNat)
  case atStart => exact ⟨0, by omega, rfl, fun b hb => (nomatch hb)⟩
  case round =>
    obtain ⟨k, hk, rfl, hbb⟩ := hrel
    have HBB := Lib.hid hbb
    clear hbb
    by_cases hlt : k < n
    · have hlq : k < L.length := by have := HL.out; omega
      obtain ⟨a, rfl, -, c0, -⟩ := HA.out.row hlq
      have hmem : L[k] ∈ L := List.getElem_mem hlq
      have htk : L.take (k + 1) = L.take k ++ [L[k]] := by rw [List.take_add_one, List.getElem?_eq_getElem hlq]; rfl
      have hbm := HB.out _ hmem
      unfold maxLen at hbm
      generalize L[k] = b at c0 hmem htk hbm
      have HM := Lib.hid hmem
      have HT := Lib.hid htk
      clear hmem htk hlq
      by_cases hbig : 200 < b.l.length
      · have hbig' : (200 : Int) < (b.l.length : Int) := by omega
        go_wp2_with fail
        go_ret
        refine ⟨?_, rfl⟩
        rw [← HV.out, decide_eq_false (fun h => by have := h.1 b HM.out; omega)]
        rfl
      · have hbig' : ¬ (200 : Int) < (b.l.length : Int) := by omega
        go_wp2_with fail
        go_round
        case rel => exact ⟨k + 1, by omega, by go_num, fun x hx => by
          rw [HT.out] at hx
          rcases List.mem_append.1 hx with hx | hx
          · exact HBB.out x hx
          · rw [List.mem_singleton.1 hx]; omega⟩
        case measure => simp [intOf]; omega
    · obtain rfl : k = n := by omega
      by_cases hle : (k : Int) ≤ m
      all_goals
        go_wp2_with fail
        go_ret
        refine ⟨?_, rfl⟩
        rw [← HV.out]
      · rw [decide_eq_true (show fewR L m from ⟨by have := HBB.out; rwa [List.take_of_length_le (by have := HL.out; omega)] at this, by rw [HL.out]; omega⟩)]
        simp <;> omega
      · rw [decide_eq_false (show ¬ fewR L m from fun h => by have := h.2; rw [HL.out] at this; omega)]
        simp <;> omega

set_option maxRecDepth 100000 in
set_option maxHeartbeats 2000000 in
theorem sameRows_yes (w : World) (A : Option Addr) (c : Nat) (L : List BR) (B : Option Addr) (d : Nat) (M : List BR) (ha : RowsIn A c L w) (hb : RowsIn B d M w) (he : L.map (·.l) = M.map (·.l)) (hn : L.length ≤ 100000000) (hl : ∀ b ∈ L, b.l.length ≤ 100000000) :
    Calls Tryz.prog 18 #[.slice A L.length c, .slice B M.length d] w fun e w' => e = .returned (.bool true) ∧ Below w.heap.size w w' := by
  have HA := Lib.hid ha
  have HB := Lib.hid hb
  have HE := Lib.hid he
  have HL := Lib.hid hl
  have hlen : L.length = M.length := by have := congrArg List.length he; simpa using this
  obtain ⟨n, hL⟩ : ∃ n, L.length = n := ⟨_, rfl⟩
  rw [← hlen, hL]
  have HN := Lib.hid hL
  have HM := Lib.hid (hlen.symm.trans hL)
  rw [hL] at hn
  clear ha hb he hl hlen hL
  go_enter Tryz.func18, Tryz.ntmps18
  go_wp2_with fail
  go_loopw [13] (fun i wx => ∃ k : Nat, k ≤ n ∧ i = .int .i64 (k : Int) ∧ Below w.heap.size w wx) (fun i _ => n - (intOf i).toNat)
  case atStart => exact ⟨0, by omega, rfl, Below.refl _ _⟩
  case round =>
    obtain ⟨k, hk, rfl, hbb⟩ := hrel
    have HBB := Lib.hid hbb
    clear hbb
    by_cases hlt : k < n
    case neg =>
      obtain rfl : k = n := by omega
      go_wp2_with fail
      go_ret
      exact ⟨rfl, HBB.out⟩
    have hk1 : k < L.length := by have := HN.out; omega
    have hk2 : k < M.length := by have := HM.out; omega
    have h0 : (0 : Int) ≤ (k : Int) := by omega
    have h1 : (k : Int) < (n : Int) := by omega
    have hab : L[k].l = M[k].l := by
      have := congrArg (fun l : List (List Bool) => l[k]?) HE.out
      simp only [List.getElem?_map, List.getElem?_eq_getElem hk1, List.getElem?_eq_getElem hk2, Option.map_some, Option.some.injEq] at this
      exact this
    have hbl := HL.out _ (List.getElem_mem hk1)
    obtain ⟨a, rfl, -, c0, r0⟩ := (HA.out.later HBB.out).row hk1
    obtain ⟨b, rfl, -, c1, r1⟩ := (HB.out.later HBB.out).row hk2
    rw [← hab] at c1 r1
    generalize L[k] = x at c0 c1 r0 r1 hbl
    generalize M[k] = y at c1 r1
    have hcl := fun W (hB : Below wr.heap.size wr W) => sameBools_yes W x.A y.A x.l.length x.c y.c x.l (r0.later hB) (r1.later hB) hbl
    have HCL := Lib.hid hcl
    clear hab r0 r1 hcl hk1 hk2
    go_wp2_with fail
    refine wp_region_held_drew (S := (fun _ => True)) (by kernel_rfl) ?_ (fun hHeld => ?_)
    · trivial
    refine wpAnyH_take (i := 0) (oi := { dst := some 16, op := Op.move (Operand.tmp 0), type := 42, pos := _, after := #[], guard := none }) (v := ?_) rfl (by kernel_rfl) (by kernel_rfl) (by kernel_rfl) (fun _ _ _ h => h) (Or.inl ⟨by rfl, ?_⟩) (by assumption) ?_
    rotate_left
    · intro w hSw; (try dsimp only at hSw); go_simp; (try with_reducible rfl)
    try simp only [Act.put, List.setIfInBounds_toArray, List.set_cons_zero, List.set_cons_succ]
    refine wpAnyH_take (i := 1) (oi := { dst := some 17, op := Op.move (Operand.tmp 5), type := 3, pos := _, after := #[], guard := none }) (v := ?_) rfl (by kernel_rfl) (by kernel_rfl) (by kernel_rfl) (fun _ _ _ h => h) (Or.inl ⟨by rfl, ?_⟩) (by assumption) ?_
    rotate_left
    · intro w hSw; (try dsimp only at hSw); go_simp; (try with_reducible rfl)
    try simp only [Act.put, List.setIfInBounds_toArray, List.set_cons_zero, List.set_cons_succ]
    refine wpAnyH_take (i := 2) (oi := { dst := some 18, op := Op.indexAddr 42 (Operand.tmp 16) (Operand.tmp 17), type := 0, pos := _, after := #[{ on := 0, ground := Ground.data }, { on := 1, ground := Ground.data }], guard := none }) (v := ?_) rfl (by kernel_rfl) (by kernel_rfl) (by kernel_rfl) (fun _ _ _ h => h) (Or.inl ⟨by rfl, ?_⟩) (by assumption) ?_
    rotate_left
    · intro w hSw; (try dsimp only at hSw); go_simp; (try with_reducible rfl)
    try simp only [Act.put, List.setIfInBounds_toArray, List.set_cons_zero, List.set_cons_succ]
    refine wpAnyH_take (i := 4) (oi := { dst := some 20, op := Op.move (Operand.tmp 1), type := 42, pos := _, after := #[], guard := none }) (v := ?_) rfl (by kernel_rfl) (by kernel_rfl) (by kernel_rfl) (fun _ _ _ h => h) (Or.inl ⟨by rfl, ?_⟩) (by assumption) ?_
    rotate_left
    · intro w hSw; (try dsimp only at hSw); go_simp; (try with_reducible rfl)
    try simp only [Act.put, List.setIfInBounds_toArray, List.set_cons_zero, List.set_cons_succ]
    refine wpAnyH_take (i := 5) (oi := { dst := some 21, op := Op.move (Operand.tmp 5), type := 3, pos := _, after := #[], guard := none }) (v := ?_) rfl (by kernel_rfl) (by kernel_rfl) (by kernel_rfl) (fun _ _ _ h => h) (Or.inl ⟨by rfl, ?_⟩) (by assumption) ?_
    rotate_left
    · intro w hSw; (try dsimp only at hSw); go_simp; (try with_reducible rfl)
    try simp only [Act.put, List.setIfInBounds_toArray, List.set_cons_zero, List.set_cons_succ]
    refine wpAnyH_take (i := 6) (oi := { dst := some 22, op := Op.indexAddr 42 (Operand.tmp 20) (Operand.tmp 21), type := 0, pos := _, after := #[{ on := 4, ground := Ground.data }, { on := 5, ground := Ground.data }], guard := none }) (v := ?_) rfl (by kernel_rfl) (by kernel_rfl) (by kernel_rfl) (fun _ _ _ h => h) (Or.inl ⟨by rfl, ?_⟩) (by assumption) ?_
    rotate_left
    · intro w hSw; (try dsimp only at hSw); go_simp; (try with_reducible rfl)
    try simp only [Act.put, List.setIfInBounds_toArray, List.set_cons_zero, List.set_cons_succ]
    refine wpAnyH_ready (rs := [3, 7]) (by kernel_rfl) (by simp) ?_
    refine AllReadyH.cons (o := { dst := some 19, op := Op.load 25 (Operand.tmp 18), type := 25, pos := _, after := #[{ on := 2, ground := Ground.data }], guard := none }) rfl (fun K hK => ?_) (AllReadyH.cons (o := { dst := some 23, op := Op.load 25 (Operand.tmp 22), type := 25, pos := _, after := #[{ on := 6, ground := Ground.data }], guard := none }) rfl (fun K hK => ?_) AllReadyH.nil)
    · skip
      go_simp
      refine hK.out _ _ ?_ (fun hHeld => ?_)
      · trivial
      clear hK K
      try simp only [Act.put, List.setIfInBounds_toArray, List.set_cons_zero, List.set_cons_succ]
      refine wpAnyH_ready (rs := [7]) (by kernel_rfl) (by simp) ?_
      refine AllReadyH.cons (o := { dst := some 23, op := Op.load 25 (Operand.tmp 22), type := 25, pos := _, after := #[{ on := 6, ground := Ground.data }], guard := none }) rfl (fun K hK => ?_) AllReadyH.nil
      go_simp
      refine hK.out _ _ ?_ (fun hHeld => ?_)
      · trivial
      clear hK K
      try simp only [Act.put, List.setIfInBounds_toArray, List.set_cons_zero, List.set_cons_succ]
      refine wpAnyH_ready (rs := [8]) (by kernel_rfl) (by simp) ?_
      refine AllReadyH.cons (o := { dst := some 24, op := Op.call { callee := Callee.value (Operand.func 14), args := #[Operand.tmp 19, Operand.tmp 23], argTypes := #[25, 25] }, type := 4, pos := _, after := #[{ on := 3, ground := Ground.data }, { on := 7, ground := Ground.data }], guard := none }) rfl (fun K hK => ?_) AllReadyH.nil
      go_simp
      with_reducible refine (HCL.out _ ?_).mono ?_
      · exact below_drewN (Below.refl _ _) 1
      rintro e w7 ⟨rfl, hb7⟩
      have hb7 := below_of_drew hb7
      have B7 := Lib.hid (below_then HBB.out hb7)
      clear hb7
      refine hK.out _ _ ?_ (fun hHeld => ?_)
      · trivial
      clear hK K
      try simp only [Act.put, List.setIfInBounds_toArray, List.set_cons_zero, List.set_cons_succ]
      refine wpAnyH_ready (rs := [9]) (by kernel_rfl) (by simp) ?_
      refine AllReadyH.cons (o := { dst := some 25, op := Op.unOp UnOp.not 4 (Operand.tmp 24), type := 4, pos := _, after := #[{ on := 8, ground := Ground.data }], guard := none }) rfl (fun K hK => ?_) AllReadyH.nil
      go_simp
      refine hK.out _ _ ?_ (fun hHeld => ?_)
      · trivial
      clear hK K
      try simp only [Act.put, List.setIfInBounds_toArray, List.set_cons_zero, List.set_cons_succ]
      refine wpAnyH_done (by kernel_rfl) ?_ _
      clear hHeld
      go_wp2_with fail
      go_roundw
      case rel => exact ⟨k + 1, by omega, by go_num, B7.out⟩
      case measure => simp [intOf]; omega
    · skip
      go_simp
      refine hK.out _ _ ?_ (fun hHeld => ?_)
      · trivial
      clear hK K
      try simp only [Act.put, List.setIfInBounds_toArray, List.set_cons_zero, List.set_cons_succ]
      refine wpAnyH_ready (rs := [3]) (by kernel_rfl) (by simp) ?_
      refine AllReadyH.cons (o := { dst := some 19, op := Op.load 25 (Operand.tmp 18), type := 25, pos := _, after := #[{ on := 2, ground := Ground.data }], guard := none }) rfl (fun K hK => ?_) AllReadyH.nil
      go_simp
      refine hK.out _ _ ?_ (fun hHeld => ?_)
      · trivial
      clear hK K
      try simp only [Act.put, List.setIfInBounds_toArray, List.set_cons_zero, List.set_cons_succ]
      refine wpAnyH_ready (rs := [8]) (by kernel_rfl) (by simp) ?_
      refine AllReadyH.cons (o := { dst := some 24, op := Op.call { callee := Callee.value (Operand.func 14), args := #[Operand.tmp 19, Operand.tmp 23], argTypes := #[25, 25] }, type := 4, pos := _, after := #[{ on := 3, ground := Ground.data }, { on := 7, ground := Ground.data }], guard := none }) rfl (fun K hK => ?_) AllReadyH.nil
      go_simp
      with_reducible refine (HCL.out _ ?_).mono ?_
      · exact below_drewN (Below.refl _ _) 1
      rintro e w7 ⟨rfl, hb7⟩
      have hb7 := below_of_drew hb7
      have B7 := Lib.hid (below_then HBB.out hb7)
      clear hb7
      refine hK.out _ _ ?_ (fun hHeld => ?_)
      · trivial
      clear hK K
      try simp only [Act.put, List.setIfInBounds_toArray, List.set_cons_zero, List.set_cons_succ]
      refine wpAnyH_ready (rs := [9]) (by kernel_rfl) (by simp) ?_
      refine AllReadyH.cons (o := { dst := some 25, op := Op.unOp UnOp.not 4 (Operand.tmp 24), type := 4, pos := _, after := #[{ on := 8, ground := Ground.data }], guard := none }) rfl (fun K hK => ?_) AllReadyH.nil
      go_simp
      refine hK.out _ _ ?_ (fun hHeld => ?_)
      · trivial
      clear hK K
      try simp only [Act.put, List.setIfInBounds_toArray, List.set_cons_zero, List.set_cons_succ]
      refine wpAnyH_done (by kernel_rfl) ?_ _
      clear hHeld
      go_wp2_with fail
      go_roundw
      case rel => exact ⟨k + 1, by omega, by go_num, B7.out⟩
      case measure => simp [intOf]; omega
end Go.Proofs.YtoloaecbfglaeaaGreat

namespace Go.Proofs.YtoloaecbfglaeaaGreat
open Go.RowKit Topo
set_option linter.unusedVariables false
set_option linter.unusedSimpArgs false

/-- alike but for the table of block t, which nobody reads -/
structure Twin (P Q : PK) (t : Nat) : Prop where
  i : P.I = Q.I
  n : P.bs.length = Q.bs.length
  outs : P.outs = Q.outs
  ins : ∀ k, inL P.bs k = inL Q.bs k
  tab : ∀ k, k ≠ t → tAt P.bs k = tAt Q.bs k
  ff : ∀ k, ffAt P.bs k = ffAt Q.bs k
  it : ∀ k, itAt P.bs k = itAt Q.bs k
  flops : P.flops = Q.flops
  idle : ∀ k, ∀ x ∈ inL P.bs k, x ≠ P.I + (t : Int)
  out : ∀ x ∈ P.outs, x ≠ P.I + (t : Int)
theorem edTo_same {I : Int} {bs cs : List BL} (hi : ∀ k, inL bs k = inL cs k) (hf : ∀ k, ffAt bs k = ffAt cs k) : ∀ k, edTo I bs k = edTo I cs k
  | 0 => rfl
  | k + 1 => by
    have h1 : ∀ i x, edOf I bs i x = edOf I cs i x := fun i x => by unfold edOf; rw [hf]
    have h2 : ∀ i l, edB I bs i l = edB I cs i l := fun i l => by unfold edB; rw [show edOf I bs i = edOf I cs i from funext (h1 i)]
    rw [edTo, edTo, edTo_same hi hf k, hf k, hi k, h2]
section
variable {P Q : PK} {t : Nat}
theorem Twin.E (h : Twin P Q t) : P.E = Q.E := by unfold PK.E; rw [edTo_same h.ins h.ff, h.i, h.n]
theorem Twin.S (h : Twin P Q t) : P.S = Q.S := funext fun k => by unfold PK.S; rw [h.ff]
/-- alike but for one place -/
def but (j : Nat) (U V : List Bool) : Prop := U.length = V.length ∧ ∀ k, k ≠ j → U.getD k false = V.getD k false
theorem getD_put (U : List Bool) (i : Nat) (b : Bool) (k : Nat) : (U.set i b).getD k false = if i = k ∧ i < U.length then b else U.getD k false := by
  simp only [List.getD_eq_getElem?_getD, List.getElem?_set]
  by_cases h : i = k
  · subst h
    by_cases h2 : i < U.length
    · simp [h2]
    · simp [h2, List.getElem?_eq_none (show U.length ≤ i by omega)]
  · simp [h]
theorem but.set {j : Nat} {U V : List Bool} (h : but j U V) (i : Nat) {a b : Bool} (hab : i ≠ j → a = b) : but j (U.set i a) (V.set i b) := by
  refine ⟨by simp [h.1], fun k hk => ?_⟩
  rw [getD_put, getD_put, h.1, h.2 k hk]
  by_cases hi : i = k ∧ i < V.length
  · rw [if_pos hi, if_pos hi]; exact hab (by omega)
  · rw [if_neg hi, if_neg hi]
theorem but.refl (j : Nat) (U : List Bool) : but j U U := ⟨rfl, fun _ _ => rfl⟩
/-- states alike but for the flop of block t -/
def butS (P : PK) (t : Nat) (s u : List Bool) : Prop := s.length = u.length ∧ ∀ k, P.flops.getD k 0 ≠ t → s.getD k false = u.getD k false
theorem stTo_but {n t : Nat} {F : List Nat} {s u : List Bool} (hs : ∀ k, F.getD k 0 ≠ t → s.getD k false = u.getD k false) (W : List Bool) : ∀ k, but (n + t) (stTo n F s W k) (stTo n F u W k)
  | 0 => but.refl _ _
  | k + 1 => (stTo_but hs W k).set _ (fun hne => hs k (by omega))
theorem Twin.val (h : Twin P Q t) (hm : P.may) {b : Nat} (hb : b ≠ t) {U V : List Bool} (hu : but (P.I.toNat + t) U V) : P.val b U = Q.val b V := by
  unfold PK.val
  rw [h.tab b hb, ← h.ins b]
  refine valB_same (fun x hx => hu.2 _ ?_)
  have h1 := may_in hm hx
  have h2 := h.idle b x hx
  have h3 := hm.1
  omega
theorem Twin.runL (h : Twin P Q t) (hm : P.may) : ∀ (O : List Nat) {U V : List Bool}, but (P.I.toNat + t) U V → but (P.I.toNat + t) (runL P.val P.I.toNat O U) (runL Q.val P.I.toNat O V)
  | [], _, _, hu => hu
  | b :: O, U, V, hu => by
    show but _ (Topo.runL P.val P.I.toNat O (U.set (P.I.toNat + b) (P.val b U))) (Topo.runL Q.val P.I.toNat O (V.set (P.I.toNat + b) (Q.val b V)))
    exact Twin.runL h hm O (hu.set _ (fun hne => h.val hm (by omega) hu))
theorem Twin.w2 (h : Twin P Q t) (hm : P.may) (O : List Nat) (li : List Bool) {s u : List Bool} (hs : butS P t s u) : but (P.I.toNat + t) (P.w2 O li s) (Q.w2 O li u) := by
  unfold PK.w2 PK.w1
  rw [← h.i, ← h.flops, ← h.n]
  exact h.runL hm O (stTo_but hs.2 _ _)
theorem Twin.tell (h : Twin P Q t) (hm : P.may) (O : List Nat) (li : List Bool) {s u : List Bool} (hs : butS P t s u) : P.tell O s li = Q.tell O u li := by
  unfold PK.tell
  rw [← h.outs]
  refine List.map_congr_left (fun x hx => (h.w2 hm O li hs).2 _ ?_)
  have h1 := any_bad_no hm.2.2.2.2 x hx
  have h2 := h.out x hx
  have h3 := hm.1
  omega
theorem Twin.keep (h : Twin P Q t) (hm : P.may) (O : List Nat) (li : List Bool) {s u : List Bool} (hs : butS P t s u) : butS P t (P.keep O s li) (Q.keep O u li) := by
  refine ⟨by unfold PK.keep; simp [h.flops], fun k hk => ?_⟩
  unfold PK.keep
  rw [← h.flops]
  simp only [List.getD_eq_getElem?_getD, List.getElem?_map] at hk ⊢
  by_cases hl : k < P.flops.length
  · rw [List.getElem?_eq_getElem hl] at hk ⊢
    simp only [Option.map_some, Option.getD_some] at hk ⊢
    exact h.val hm hk (h.w2 hm O li hs)
  · rw [List.getElem?_eq_none (by omega)]
    rfl
theorem Twin.first (h : Twin P Q t) : P.first = Q.first := by
  unfold PK.first; rw [← h.flops]; exact List.map_congr_left (fun i _ => h.it i)
theorem Twin.stAt (h : Twin P Q t) (hm : P.may) (O : List Nat) (L : List (List Bool)) : ∀ k, butS P t (P.stAt O L k) (Q.stAt O L k)
  | 0 => by show butS P t P.first Q.first; rw [h.first]; exact ⟨rfl, fun _ _ => rfl⟩
  | k + 1 => h.keep hm O _ (Twin.stAt h hm O L k)
theorem Twin.play (h : Twin P Q t) (hm : P.may) (O : List Nat) (L : List (List Bool)) : P.play O L = Q.play O L := by
  unfold PK.play
  exact List.map_congr_left (fun k _ => h.tell hm O _ (h.stAt hm O L k))
/-- what they tell hangs on no order -/
theorem play_same (hm : P.may) {O O' : List Nat} (h : All (depE P.E) P.S O) (h' : All (depE P.E) P.S O') {L : List (List Bool)} (hl : ∀ l ∈ L, (l.length : Int) = P.I) : P.play O L = P.play O' L := by
  have hk : ∀ k, k < L.length → ((L.getD k []).length : Int) = P.I := fun k hk => hl _ (by rw [List.getD_eq_getElem?_getD, List.getElem?_eq_getElem hk]; exact List.getElem_mem hk)
  have hs : ∀ k, k ≤ L.length → P.stAt O L k = P.stAt O' L k := by
    intro k
    induction k with
    | zero => intro _; rfl
    | succ k ih =>
      intro hkl
      show P.keep O (P.stAt O L k) _ = P.keep O' (P.stAt O' L k) _
      rw [ih (by omega)]
      unfold PK.keep
      rw [w2_same hm h h' (hk k (by omega))]
  unfold PK.play
  refine List.map_congr_left (fun k hkm => ?_)
  have hkl := List.mem_range.1 hkm
  rw [hs k (by omega)]
  unfold PK.tell
  rw [w2_same hm h h' (hk k hkl)]
theorem Twin.run (h : Twin P Q t) (hm : P.may) (hm' : Q.may) {O : List Nat} (hO : All (depE P.E) P.S O) {L rs rs' : List (List Bool)} {x x' : Int} (h1 : RunR P L rs x) (h2 : RunR Q L rs' x') : x = x' ∧ rs = rs' := by
  have hO' : All (depE Q.E) Q.S O := by rw [← h.E, ← h.S]; exact hO
  have c1 : ChkR P 0 := .inl ⟨rfl, hm, O, hO⟩
  have c2 : ChkR Q 0 := .inl ⟨rfl, hm', O, hO'⟩
  rcases h1 with ⟨a, b, -⟩ | ⟨-, ⟨l, hl, hne⟩, rfl, rfl⟩ | ⟨rfl, -, ha, O1, hO1, rfl⟩
  · exact absurd (a.one c1) b
  · rcases h2 with ⟨a, b, -⟩ | ⟨-, -, rfl, rfl⟩ | ⟨-, -, hb, -⟩
    · exact absurd (a.one c2) b
    · exact ⟨rfl, rfl⟩
    · exact absurd (by rw [hb l hl, h.i]) hne
  · rcases h2 with ⟨a, b, -⟩ | ⟨-, ⟨l, hl, hne⟩, -, -⟩ | ⟨rfl, -, hb, O2, hO2, rfl⟩
    · exact absurd (a.one c2) b
    · exact absurd (by rw [ha l hl, h.i]) hne
    · exact ⟨rfl, by rw [play_same hm hO1 hO ha, h.play hm O L, play_same hm' hO' hO2 hb]⟩
end
end Go.Proofs.YtoloaecbfglaeaaGreat
