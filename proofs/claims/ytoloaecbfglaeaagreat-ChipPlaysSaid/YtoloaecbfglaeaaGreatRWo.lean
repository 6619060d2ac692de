/- Walk of filigreeref27.Without: a table without its inputs that are node 0. -/
import Derived.Test.YtoloaecbfglaeaaGreatBlkW
import Derived.Test.YtoloaecbfglaeaaGreatRRun
import Derived.Deep.Slices
namespace Go.Proofs.YtoloaecbfglaeaaGreat
open Go.RowKit Topo
set_option linter.unusedVariables false
set_option linter.unusedSimpArgs false

theorem u64_and1 (m : Nat) (h : m < 4294967296) : bits .and .u64 (m : Int) 1 = ((m % 2 : Nat) : Int) := by
  have e : bits .and .u64 (m : Int) ((1 : Nat) : Int) = IntKind.u64.wrap ((BitVec.ofInt 64 (m : Int) &&& BitVec.ofInt 64 ((1 : Nat) : Int)).toNat : Int) := rfl
  have e1 : (BitVec.ofInt 64 (m : Int)).toNat = m := by simp; omega
  have e2 : (BitVec.ofInt 64 ((1 : Nat) : Int)).toNat = 1 := by simp
  show bits .and .u64 (m : Int) ((1 : Nat) : Int) = _
  rw [e, BitVec.toNat_and, e1, e2, Nat.and_one_is_mod]
  show (((m % 2 : Nat) : Int)) % 18446744073709551616 = _
  omega
/-- the rows of the first i in which input k is 0 -/
def selTo (k i : Nat) : List Nat := (List.range i).filter fun i => i / 2 ^ k % 2 == 0
theorem selTo_next (k i : Nat) : selTo k (i + 1) = if i / 2 ^ k % 2 = 0 then selTo k i ++ [i] else selTo k i := by
  unfold selTo
  rw [List.range_succ, List.filter_append]
  by_cases h : i / 2 ^ k % 2 = 0
  · rw [if_pos h]; simp [h]
  · rw [if_neg h]; simp [h]
theorem selTo_len (k i : Nat) : (selTo k i).length ≤ i := by
  have := List.length_filter_le (fun i => i / 2 ^ k % 2 == 0) (List.range i)
  simpa [selTo] using this
theorem pk_pre (l m : List Nat) (t : Nat) : ∀ j, j ≤ l.length → pk (l ++ m) t j = pk l t j
  | 0, _ => rfl
  | j + 1, h => by
    simp only [pk]
    rw [pk_pre l m t j (by omega)]
    simp [List.getD_eq_getElem?_getD, List.getElem?_append_left (show j < l.length by omega)]
/-- the bits told so far -/
def pkTo (k t i : Nat) : Nat := pk (selTo k i) t (selTo k i).length
theorem pkTo_next (k t i : Nat) : pkTo k t (i + 1) = if i / 2 ^ k % 2 = 0 then pkTo k t i + t / 2 ^ i % 2 * 2 ^ (selTo k i).length else pkTo k t i := by
  unfold pkTo
  rw [selTo_next]
  by_cases h : i / 2 ^ k % 2 = 0
  · rw [if_pos h, if_pos h, List.length_append]
    show pk (selTo k i ++ [i]) t ((selTo k i).length + 1) = _
    simp only [pk]
    rw [pk_pre _ _ _ _ (Nat.le_refl _)]
    simp [List.getD_eq_getElem?_getD]
  · rw [if_neg h, if_neg h]
theorem pkTo_lt (k t i : Nat) : pkTo k t i < 2 ^ i := Nat.lt_of_lt_of_le (pk_lt _ _ _) (Nat.pow_le_pow_right (by omega) (selTo_len k i))
theorem pkTo_all (n k t : Nat) : pkTo k t (2 ^ n) = pk (sel n k) t (sel n k).length := rfl
theorem find_none {l : List Int} (h : ∀ x ∈ l, x ≠ 0) : l.findIdx? (fun x => decide (x = 0)) = none := by
  rw [List.findIdx?_eq_none_iff]
  intro x hx
  simpa using h x hx
theorem find_some {l : List Int} {k : Nat} (hk : k < l.length) (h : ∀ x ∈ l.take k, x ≠ 0) (h0 : l.getD k 0 = 0) : l.findIdx? (fun x => decide (x = 0)) = some k := by
  have e : l.getD k 0 = l[k] := by rw [List.getD_eq_getElem?_getD, List.getElem?_eq_getElem hk]; rfl
  rw [List.findIdx?_eq_some_iff_getElem]
  refine ⟨hk, by rw [← e, h0]; simp, fun j hj => ?_⟩
  have := h l[j] (by rw [List.mem_take_iff_getElem]; exact ⟨j, by omega, rfl⟩)
  simpa using this
theorem wo_stop {f : Nat} {l : List Int} {t : Nat} (h : ∀ x ∈ l, x ≠ 0) : wo f l t = (l, t) := by
  cases f with
  | zero => rfl
  | succ f => simp only [wo, find_none h]
theorem wo_next {f : Nat} {l : List Int} {t k : Nat} (hk : k < l.length) (h : ∀ x ∈ l.take k, x ≠ 0) (h0 : l.getD k 0 = 0) : wo (f + 1) l t = wo f (l.eraseIdx k) (pkTo k t (2 ^ l.length)) := by
  simp only [wo, find_some hk h h0]
  rfl
theorem erase_cells (l : List Int) (k : Nat) : (ints l).take k ++ (ints l).drop (k + 1) = ints (l.eraseIdx k) := by
  simp [ints, List.eraseIdx_eq_take_drop_succ]
theorem take_get {α : Type} {l : List α} {k j : Nat} {u : α} (h : (l.take k)[j]? = some u) : l[j]? = some u := by
  rw [List.getElem?_take] at h
  split at h
  · exact h
  · cases h
theorem ints_one {l : List Int} {u : Value} (h : u ∈ ints l) : u.oneCell' = true := by
  obtain ⟨x, -, rfl⟩ := List.mem_map.1 h
  rfl
def WoOut (l : List Int) (t : Nat) (w : World) (e : Ending) (w' : World) : Prop :=
  ∃ A c, e = .returned (.tuple #[.slice A l.length c, .int .u64 (t : Int)]) ∧ Below w.heap.size w w' ∧ Rd w' 1 A l.length c (ints l)
set_option maxRecDepth 100000 in
set_option maxHeartbeats 8000000 in
theorem without_any : ∀ (f : Nat) (l : List Int) (t : Nat) (A : Option Addr) (c : Nat) (w : World) (hr : Rd w 1 A l.length c (ints l)) (hl : l.length ≤ f) (hf : f ≤ 4) (ht : t < 65536),
    Calls Tryz.prog 33 #[.slice A l.length c, .int .u64 (t : Int)] w (WoOut (wo f l t).1 (wo f l t).2 w) := by
  intro f
  induction f with
  | zero =>
    intro l t A c w hr hl hf ht
    obtain rfl : l = [] := List.length_eq_zero_iff.1 (by omega)
    have HR := Lib.hid hr
    clear hr
    rw [wo_stop (by intro x hx; cases hx)]
    have hl0 : ([] : List Int).length = 0 := rfl
    go_enter Tryz.func33, Tryz.ntmps33
    go_wp2_with fail
    go_loop [13] (fun i => i = .int .i64 0) (fun _ => 0)
    case atStart => rfl
    case round =>
      subst hrel
      go_wp2_with fail
      go_ret2
      exact ⟨A, c, rfl, Below.refl _ _, HR.out⟩
  | succ f ih =>
    intro l t A c w hr hl hf ht
    have HR := Lib.hid hr
    have IH := Lib.hid ih
    have hl4 : l.length ≤ 4 := by omega
    obtain ⟨r, hrr⟩ : ∃ r, wo (f + 1) l t = r := ⟨_, rfl⟩
    rw [hrr]
    have HW := Lib.hid hrr
    obtain ⟨n, hn⟩ : ∃ n, l.length = n := ⟨_, rfl⟩
    have HN := Lib.hid hn
    rw [hn]
    rw [hn] at hl hl4
    have htn : ∀ k, k < n → k < l.length := fun k hk => by omega
    clear hr ih hrr hn
    obtain ⟨i0, hi0, hz0, hz1, hz2⟩ := info_parts int_info
    have HI0 := Lib.hid hi0
    have HZ0 := Lib.hid hz0
    have HZ1 := Lib.hid hz1
    have HZ2 := Lib.hid hz2
    clear hi0 hz0 hz1 hz2
    go_enter Tryz.func33, Tryz.ntmps33
    go_wp2_with fail
    go_loop [13] (fun i => ∃ k : Nat, k ≤ n ∧ i = .int .i64 (k : Int) ∧ ∀ x ∈ l.take k, x ≠ 0) (fun i => n - (intOf i).toNat)
    case atStart => exact ⟨0, by omega, rfl, fun x hx => (nomatch hx)⟩
    case round =>
      obtain ⟨k, hk, rfl, hno⟩ := hrel
      have HNO := Lib.hid hno
      clear hno
      by_cases hlt : k < n
      case neg =>
        obtain rfl : k = n := by omega
        have hr2 : r = (l, t) := by
          rw [← HW.out]
          exact wo_stop (fun x hx => HNO.out x (by rw [List.take_of_length_le (by rw [HN.out]; exact Nat.le_refl _)]; exact hx))
        have HR2 := Lib.hid hr2
        clear hr2
        go_wp2_with fail
        go_ret2
        rw [HR2.out]
        exact ⟨A, c, by rw [HN.out]; rfl, Below.refl _ _, by rw [HN.out]; have := HR.out; rwa [HN.out] at this⟩
      have hkl := htn k hlt
      obtain ⟨a, hA, hab, cx⟩ := HR.out.int hkl
      subst hA
      have htk := take_one hkl 0
      have HTK := Lib.hid htk
      clear htk
      obtain ⟨z, hz⟩ : ∃ z, l.getD k 0 = z := ⟨_, rfl⟩
      rw [hz] at cx
      have HZ := Lib.hid hz
      clear hz
      by_cases hz0 : z = 0
      case neg =>
        have hz1 : (z != 0) = true := by rw [bne_iff_ne]; exact hz0
        have HZN := Lib.hid hz0
        clear hz0
        go_wp2_with fail
        go_round
        case rel => exact ⟨k + 1, by omega, by go_num, fun x hx => by
          rw [HTK.out, HZ.out] at hx
          rcases List.mem_append.1 hx with hx | hx
          · exact HNO.out x hx
          · rw [List.mem_singleton.1 hx]; exact HZN.out⟩
        case measure => simp [intOf]; omega
      subst hz0
      have hnx := wo_next (f := f) (t := t) hkl HNO.out HZ.out
      rw [HW.out, HN.out] at hnx
      have HNX := Lib.hid hnx
      obtain ⟨m, hm⟩ : ∃ m, 2 ^ n = m := ⟨_, rfl⟩
      have hm16 : m ≤ 16 := by rw [← hm]; exact Nat.pow_le_pow_right (n := 2) (j := 4) (by omega) hl4
      have hspm := pow_nat hm
      rw [hm] at hnx
      have HNX := Lib.hid hnx
      have HM := Lib.hid hm
      obtain ⟨p, hp⟩ : ∃ p, 2 ^ k = p := ⟨_, rfl⟩
      have hp16 : p ≤ 16 := by rw [← hp]; exact Nat.pow_le_pow_right (n := 2) (j := 4) (by omega) (by omega)
      have hp1 : 1 ≤ p := by rw [← hp]; exact Nat.two_pow_pos _
      have hspp := pow_nat hp
      have HP := Lib.hid hp
      clear hnx hm hp
      go_wp2_with fail
      go_loop [8, 9, 23] (fun v8 v9 v23 => ∃ i : Nat, i ≤ m ∧ v23 = .int .i64 (i : Int) ∧ v8 = .int .u64 (pkTo k t i : Int) ∧ v9 = .int .i64 ((selTo k i).length : Int)) (fun _ _ v23 => m - (intOf v23).toNat)
      case atStart => exact ⟨0, by omega, rfl, rfl, rfl⟩
      case round =>
        obtain ⟨i, hi, rfl, rfl, rfl⟩ := hrel
        have hsl := selTo_len k i
        have hpl := pkTo_lt k t i
        by_cases hlt2 : i < m
        case neg =>
          obtain rfl : i = m := by omega
          have hp2 : pkTo k t i < 65536 := Nat.lt_of_lt_of_le hpl (Nat.pow_le_pow_right (n := 2) (j := 16) (by omega) (by omega))
          generalize pkTo k t i = t2 at HNX hp2
          clear hpl hsl
          have hcap : n ≤ c := by have := HR.out.cap; rw [HN.out] at this; omega
          have hkc : k ≤ c := by omega
          have hw1 : IntKind.i64.wrap ((k : Int) + 1) = (k : Int) + 1 := IntWalk.i64_in _ (by omega)
          have hw2 : 0 ≤ (k : Int) + 1 := by omega
          have hw3 : (k : Int) + 1 ≤ (n : Int) := by omega
          have hw4 : ((k : Int) + 1).toNat = k + 1 := by omega
          have hw5 : (k : Int) ≤ (k : Int) + 1 := by omega
          by_cases hce : c = k + 1
          case pos =>
            subst hce
            go_upto_region 14 with (fail)
            refine wp_region_held_drew (S := (fun _ => True)) (by kernel_rfl) ?_ (fun hHeld => ?_)
            · trivial
            refine wpAnyH_take (i := 0) (oi := { dst := some 42, op := Op.move (Operand.tmp 0), type := 26, pos := _, after := #[], guard := none }) (v := ?_) rfl (by kernel_rfl) (by kernel_rfl) (by kernel_rfl) (fun _ _ _ h => h) (Or.inl ⟨by rfl, ?_⟩) (by assumption) ?_
            rotate_left
            · intro w hSw; (try dsimp only at hSw); go_simp; (try with_reducible rfl)
            try simp only [Act.put, List.setIfInBounds_toArray, List.set_cons_zero, List.set_cons_succ]
            refine wpAnyH_take (i := 1) (oi := { dst := some 43, op := Op.move (Operand.tmp 6), type := 3, pos := _, after := #[], guard := none }) (v := ?_) rfl (by kernel_rfl) (by kernel_rfl) (by kernel_rfl) (fun _ _ _ h => h) (Or.inl ⟨by rfl, ?_⟩) (by assumption) ?_
            rotate_left
            · intro w hSw; (try dsimp only at hSw); go_simp; (try with_reducible rfl)
            try simp only [Act.put, List.setIfInBounds_toArray, List.set_cons_zero, List.set_cons_succ]
            refine wpAnyH_take (i := 2) (oi := { dst := some 44, op := Op.slice 26 (Operand.tmp 42) none (some (Operand.tmp 43)) none, type := 26, pos := _, after := #[{ on := 0, ground := Ground.data }, { on := 1, ground := Ground.data }], guard := none }) (v := ?_) rfl (by kernel_rfl) (by kernel_rfl) (by kernel_rfl) (fun _ _ _ h => h) (Or.inl ⟨by rfl, ?_⟩) (by assumption) ?_
            rotate_left
            · intro w hSw; (try dsimp only at hSw); go_simp; (try with_reducible rfl)
            try simp only [Act.put, List.setIfInBounds_toArray, List.set_cons_zero, List.set_cons_succ]
            refine wpAnyH_take (i := 4) (oi := { dst := some 46, op := Op.move (Operand.tmp 0), type := 26, pos := _, after := #[], guard := none }) (v := ?_) rfl (by kernel_rfl) (by kernel_rfl) (by kernel_rfl) (fun _ _ _ h => h) (Or.inl ⟨by rfl, ?_⟩) (by assumption) ?_
            rotate_left
            · intro w hSw; (try dsimp only at hSw); go_simp; (try with_reducible rfl)
            try simp only [Act.put, List.setIfInBounds_toArray, List.set_cons_zero, List.set_cons_succ]
            refine wpAnyH_take (i := 5) (oi := { dst := some 47, op := Op.move (Operand.tmp 6), type := 3, pos := _, after := #[], guard := none }) (v := ?_) rfl (by kernel_rfl) (by kernel_rfl) (by kernel_rfl) (fun _ _ _ h => h) (Or.inl ⟨by rfl, ?_⟩) (by assumption) ?_
            rotate_left
            · intro w hSw; (try dsimp only at hSw); go_simp; (try with_reducible rfl)
            try simp only [Act.put, List.setIfInBounds_toArray, List.set_cons_zero, List.set_cons_succ]
            refine wpAnyH_take (i := 6) (oi := { dst := some 48, op := Op.binOp BinOp.add 3 (Operand.tmp 47) (Operand.const (Value.int IntKind.i64 1)) 3, type := 3, pos := _, after := #[{ on := 5, ground := Ground.data }], guard := none }) (v := ?_) rfl (by kernel_rfl) (by kernel_rfl) (by kernel_rfl) (fun _ _ _ h => h) (Or.inl ⟨by rfl, ?_⟩) (by assumption) ?_
            rotate_left
            · intro w hSw; (try dsimp only at hSw); go_simp; (try with_reducible rfl)
            try simp only [Act.put, List.setIfInBounds_toArray, List.set_cons_zero, List.set_cons_succ]
            refine wpAnyH_take (i := 7) (oi := { dst := some 49, op := Op.slice 26 (Operand.tmp 46) (some (Operand.tmp 48)) none none, type := 26, pos := _, after := #[{ on := 4, ground := Ground.data }, { on := 6, ground := Ground.data }], guard := none }) (v := ?_) rfl (by kernel_rfl) (by kernel_rfl) (by kernel_rfl) (fun _ _ _ h => h) (Or.inl ⟨by rfl, ?_⟩) (by assumption) ?_
            rotate_left
            · intro w hSw; (try dsimp only at hSw); go_simp; (try with_reducible rfl)
            try simp only [Act.put, List.setIfInBounds_toArray, List.set_cons_zero, List.set_cons_succ]
            refine wpAnyH_take (i := 9) (oi := { dst := some 51, op := Op.move (Operand.tmp 8), type := 70, pos := _, after := #[], guard := none }) (v := ?_) rfl (by kernel_rfl) (by kernel_rfl) (by kernel_rfl) (fun _ _ _ h => h) (Or.inl ⟨by rfl, ?_⟩) (by assumption) ?_
            rotate_left
            · intro w hSw; (try dsimp only at hSw); go_simp; (try with_reducible rfl)
            try simp only [Act.put, List.setIfInBounds_toArray, List.set_cons_zero, List.set_cons_succ]
            refine wpAnyH_ready (rs := [3]) (by kernel_rfl) (by simp) ?_
            refine AllReadyH.cons (o := { dst := some 45, op := Op.call { callee := Callee.builtin Builtin.append, args := #[Operand.const (Value.slice none 0 0), Operand.tmp 44], argTypes := #[26, 26] }, type := 26, pos := _, after := #[{ on := 2, ground := Ground.data }], guard := none }) rfl (fun K hK => ?_) AllReadyH.nil
            have B1 := Lib.hid (show Below w.heap.size w w.drew from below_drewN (Below.refl _ _) 1)
            obtain ⟨v3, w3, hrun3, ho3, hg3, -⟩ := run_append_own (P := Tryz.prog) w.drew w.heap.size 26 26 3 i0 (.int .i64 0) 1 8 Tryz.underlying26 HI0.out HZ0.out HZ1.out HZ2.out rfl (by decide) (.slice none 0 0) 0 [] (World.ownsRow_nil _ _ _ _) a k (k + 1) ((ints l).take k) (by rw [List.length_take, ints_length, HN.out]; omega) (fun j u hj => by
              obtain ⟨a', e, -, h2⟩ := (HR.out.later B1.out).read j u (take_get hj)
              injection e with e
              subst e
              exact h2) (fun u hu => ints_one (List.mem_of_mem_take hu)) (by unfold maxLen; omega) (by omega) (Nat.le_refl _)
            obtain ⟨A3, c3, rfl⟩ := own_slice ho3
            have B3 := Lib.hid (B1.out.grown hg3 (Nat.le_refl _) (fun k hk => by simp [Value.ownBlock] at hk))
            rw [Nat.zero_add] at hrun3 ho3
            rw [List.nil_append] at ho3
            have ho3 := Lib.hid ho3
            refine step_app_run (by rfl) (.const (.slice none 0 0)) (.tmp 44) 26 26 (by rfl) (.slice none 0 0) (.slice (some a) k (k + 1)) (by rfl) (by rfl) hrun3 ?_
            clear hrun3 hg3
            refine hK.out _ _ ?_ (fun hHeld => ?_)
            · trivial
            clear hK K
            try simp only [Act.put, List.setIfInBounds_toArray, List.set_cons_zero, List.set_cons_succ]
            refine wpAnyH_ready (rs := [8]) (by kernel_rfl) (by simp) ?_
            refine AllReadyH.cons (o := { dst := some 50, op := Op.call { callee := Callee.builtin Builtin.append, args := #[Operand.tmp 45, Operand.tmp 49], argTypes := #[26, 26] }, type := 26, pos := _, after := #[{ on := 3, ground := Ground.data }, { on := 7, ground := Ground.data }, { on := 3, ground := Ground.chain }], guard := none }) rfl (fun K hK => ?_) AllReadyH.nil
            obtain ⟨v8, w8, hrun8, ho8, hg8, -⟩ := run_append_own (P := Tryz.prog) w3 w.heap.size 26 26 3 i0 (.int .i64 0) 1 8 Tryz.underlying26 HI0.out HZ0.out HZ1.out HZ2.out rfl (by decide) (.slice A3 k c3) k ((ints l).take k) ho3.out a 0 0 ((ints l).drop (k + 1)) (by rw [List.length_drop, ints_length, HN.out]; omega) (fun j u hj => by
              obtain ⟨a', e, -, h2⟩ := (HR.out.later B3.out).read (k + 1 + j) u (by rw [← List.getElem?_drop]; exact hj)
              injection e with e
              subst e
              have hjl : k + 1 + j < n := by have := (List.getElem?_eq_some_iff.1 hj).1; rw [List.length_drop, ints_length, HN.out] at this; omega
              first | (rw [Go.Deep.add_add]; exact h2) | (exfalso; omega)) (fun u hu => ints_one (List.mem_of_mem_drop hu)) (by unfold maxLen; omega) (by omega) B3.out.size
            obtain ⟨A8, c8, rfl⟩ := own_slice ho8
            have B8 := Lib.hid (B3.out.grown hg8 B3.out.size (fun k hk => own_base ho3.out hk))
            rw [erase_cells] at ho8
            have hl8 : k + 0 = (l.eraseIdx k).length := by rw [List.length_eraseIdx, if_pos hkl, HN.out]; omega
            have hl9 : (l.eraseIdx k).length ≤ f := by rw [← hl8]; omega
            rw [hl8] at hrun8 ho8
            have hcl := IH.out (l.eraseIdx k) t2 A8 c8 w8 (Rd.of_own ho8) hl9 (by omega) hp2
            rw [← HNX.out] at hcl
            have HCL := Lib.hid hcl
            refine step_app_run (by rfl) (.tmp 45) (.tmp 49) 26 26 (by rfl) (.slice A3 k c3) (.slice (some a) 0 0) (by rfl) (by rfl) hrun8 ?_
            clear hrun8 hg8 ho8 hcl
            refine hK.out _ _ ?_ (fun hHeld => ?_)
            · trivial
            clear hK K
            try simp only [Act.put, List.setIfInBounds_toArray, List.set_cons_zero, List.set_cons_succ]
            refine wpAnyH_ready (rs := [10]) (by kernel_rfl) (by simp) ?_
            refine AllReadyH.cons (o := { dst := some 52, op := Op.call { callee := Callee.value (Operand.func 33), args := #[Operand.tmp 50, Operand.tmp 51], argTypes := #[26, 70] }, type := 71, pos := _, after := #[{ on := 8, ground := Ground.data }, { on := 9, ground := Ground.data }, { on := 8, ground := Ground.chain }], guard := none }) rfl (fun K hK => ?_) AllReadyH.nil
            go_simp
            with_reducible refine HCL.out.mono ?_
            rintro e w10 ⟨A10, c10, rfl, hb10, hr10⟩
            have B10 := Lib.hid (B8.out.trans (hb10.mono B8.out.size))
            have R10 := Lib.hid hr10
            clear hb10 hr10
            refine hK.out _ _ ?_ (fun hHeld => ?_)
            · trivial
            clear hK K
            try simp only [Act.put, List.setIfInBounds_toArray, List.set_cons_zero, List.set_cons_succ]
            refine wpAnyH_take (i := 11) (oi := { dst := some 53, op := Op.extract (Operand.tmp 52) 0, type := 26, pos := _, after := #[{ on := 10, ground := Ground.data }], guard := none }) (v := ?_) rfl (by kernel_rfl) (by kernel_rfl) (by kernel_rfl) (fun _ _ _ h => h) (Or.inl ⟨by rfl, ?_⟩) (by assumption) ?_
            rotate_left
            · intro w hSw; (try dsimp only at hSw); go_simp; (try with_reducible rfl)
            try simp only [Act.put, List.setIfInBounds_toArray, List.set_cons_zero, List.set_cons_succ]
            refine wpAnyH_take (i := 12) (oi := { dst := some 54, op := Op.extract (Operand.tmp 52) 1, type := 70, pos := _, after := #[{ on := 10, ground := Ground.data }], guard := none }) (v := ?_) rfl (by kernel_rfl) (by kernel_rfl) (by kernel_rfl) (fun _ _ _ h => h) (Or.inl ⟨by rfl, ?_⟩) (by assumption) ?_
            rotate_left
            · intro w hSw; (try dsimp only at hSw); go_simp; (try with_reducible rfl)
            try simp only [Act.put, List.setIfInBounds_toArray, List.set_cons_zero, List.set_cons_succ]
            refine wpAnyH_take (i := 13) (oi := { dst := some 4, op := Op.assign (Operand.tmp 53), type := 26, pos := _, after := #[{ on := 11, ground := Ground.data }, { on := 10, ground := Ground.chain }, { on := 0, ground := Ground.phase }, { on := 1, ground := Ground.phase }, { on := 2, ground := Ground.phase }, { on := 3, ground := Ground.phase }, { on := 4, ground := Ground.phase }, { on := 5, ground := Ground.phase }, { on := 6, ground := Ground.phase }, { on := 7, ground := Ground.phase }, { on := 8, ground := Ground.phase }, { on := 9, ground := Ground.phase }, { on := 10, ground := Ground.phase }, { on := 11, ground := Ground.phase }, { on := 12, ground := Ground.phase }], guard := none }) (v := ?_) rfl (by kernel_rfl) (by kernel_rfl) (by kernel_rfl) (fun _ _ _ h => h) (Or.inl ⟨by rfl, ?_⟩) (by assumption) ?_
            rotate_left
            · intro w hSw; (try dsimp only at hSw); go_simp; (try with_reducible rfl)
            try simp only [Act.put, List.setIfInBounds_toArray, List.set_cons_zero, List.set_cons_succ]
            refine wpAnyH_take (i := 14) (oi := { dst := some 5, op := Op.assign (Operand.tmp 54), type := 70, pos := _, after := #[{ on := 12, ground := Ground.data }, { on := 13, ground := Ground.chain }, { on := 0, ground := Ground.phase }, { on := 1, ground := Ground.phase }, { on := 2, ground := Ground.phase }, { on := 3, ground := Ground.phase }, { on := 4, ground := Ground.phase }, { on := 5, ground := Ground.phase }, { on := 6, ground := Ground.phase }, { on := 7, ground := Ground.phase }, { on := 8, ground := Ground.phase }, { on := 9, ground := Ground.phase }, { on := 10, ground := Ground.phase }, { on := 11, ground := Ground.phase }, { on := 12, ground := Ground.phase }, { on := 13, ground := Ground.phase }], guard := none }) (v := ?_) rfl (by kernel_rfl) (by kernel_rfl) (by kernel_rfl) (fun _ _ _ h => h) (Or.inl ⟨by rfl, ?_⟩) (by assumption) ?_
            rotate_left
            · intro w hSw; (try dsimp only at hSw); go_simp; (try with_reducible rfl)
            try simp only [Act.put, List.setIfInBounds_toArray, List.set_cons_zero, List.set_cons_succ]
            refine wpAnyH_done (by kernel_rfl) ?_ _
            clear hHeld
            go_wp2_with fail
            go_ret2
            exact ⟨A10, c10, rfl, B10.out, R10.out⟩
          have hce2 : ¬ k + 1 = c := fun h => hce h.symm
          go_upto_region 14 with (fail)
          refine wp_region_held_drew (S := (fun _ => True)) (by kernel_rfl) ?_ (fun hHeld => ?_)
          · trivial
          refine wpAnyH_take (i := 0) (oi := { dst := some 42, op := Op.move (Operand.tmp 0), type := 26, pos := _, after := #[], guard := none }) (v := ?_) rfl (by kernel_rfl) (by kernel_rfl) (by kernel_rfl) (fun _ _ _ h => h) (Or.inl ⟨by rfl, ?_⟩) (by assumption) ?_
          rotate_left
          · intro w hSw; (try dsimp only at hSw); go_simp; (try with_reducible rfl)
          try simp only [Act.put, List.setIfInBounds_toArray, List.set_cons_zero, List.set_cons_succ]
          refine wpAnyH_take (i := 1) (oi := { dst := some 43, op := Op.move (Operand.tmp 6), type := 3, pos := _, after := #[], guard := none }) (v := ?_) rfl (by kernel_rfl) (by kernel_rfl) (by kernel_rfl) (fun _ _ _ h => h) (Or.inl ⟨by rfl, ?_⟩) (by assumption) ?_
          rotate_left
          · intro w hSw; (try dsimp only at hSw); go_simp; (try with_reducible rfl)
          try simp only [Act.put, List.setIfInBounds_toArray, List.set_cons_zero, List.set_cons_succ]
          refine wpAnyH_take (i := 2) (oi := { dst := some 44, op := Op.slice 26 (Operand.tmp 42) none (some (Operand.tmp 43)) none, type := 26, pos := _, after := #[{ on := 0, ground := Ground.data }, { on := 1, ground := Ground.data }], guard := none }) (v := ?_) rfl (by kernel_rfl) (by kernel_rfl) (by kernel_rfl) (fun _ _ _ h => h) (Or.inl ⟨by rfl, ?_⟩) (by assumption) ?_
          rotate_left
          · intro w hSw; (try dsimp only at hSw); go_simp; (try with_reducible rfl)
          try simp only [Act.put, List.setIfInBounds_toArray, List.set_cons_zero, List.set_cons_succ]
          refine wpAnyH_take (i := 4) (oi := { dst := some 46, op := Op.move (Operand.tmp 0), type := 26, pos := _, after := #[], guard := none }) (v := ?_) rfl (by kernel_rfl) (by kernel_rfl) (by kernel_rfl) (fun _ _ _ h => h) (Or.inl ⟨by rfl, ?_⟩) (by assumption) ?_
          rotate_left
          · intro w hSw; (try dsimp only at hSw); go_simp; (try with_reducible rfl)
          try simp only [Act.put, List.setIfInBounds_toArray, List.set_cons_zero, List.set_cons_succ]
          refine wpAnyH_take (i := 5) (oi := { dst := some 47, op := Op.move (Operand.tmp 6), type := 3, pos := _, after := #[], guard := none }) (v := ?_) rfl (by kernel_rfl) (by kernel_rfl) (by kernel_rfl) (fun _ _ _ h => h) (Or.inl ⟨by rfl, ?_⟩) (by assumption) ?_
          rotate_left
          · intro w hSw; (try dsimp only at hSw); go_simp; (try with_reducible rfl)
          try simp only [Act.put, List.setIfInBounds_toArray, List.set_cons_zero, List.set_cons_succ]
          refine wpAnyH_take (i := 6) (oi := { dst := some 48, op := Op.binOp BinOp.add 3 (Operand.tmp 47) (Operand.const (Value.int IntKind.i64 1)) 3, type := 3, pos := _, after := #[{ on := 5, ground := Ground.data }], guard := none }) (v := ?_) rfl (by kernel_rfl) (by kernel_rfl) (by kernel_rfl) (fun _ _ _ h => h) (Or.inl ⟨by rfl, ?_⟩) (by assumption) ?_
          rotate_left
          · intro w hSw; (try dsimp only at hSw); go_simp; (try with_reducible rfl)
          try simp only [Act.put, List.setIfInBounds_toArray, List.set_cons_zero, List.set_cons_succ]
          refine wpAnyH_take (i := 7) (oi := { dst := some 49, op := Op.slice 26 (Operand.tmp 46) (some (Operand.tmp 48)) none none, type := 26, pos := _, after := #[{ on := 4, ground := Ground.data }, { on := 6, ground := Ground.data }], guard := none }) (v := ?_) rfl (by kernel_rfl) (by kernel_rfl) (by kernel_rfl) (fun _ _ _ h => h) (Or.inl ⟨by rfl, ?_⟩) (by assumption) ?_
          rotate_left
          · intro w hSw; (try dsimp only at hSw); go_simp; (try with_reducible rfl)
          try simp only [Act.put, List.setIfInBounds_toArray, List.set_cons_zero, List.set_cons_succ]
          refine wpAnyH_take (i := 9) (oi := { dst := some 51, op := Op.move (Operand.tmp 8), type := 70, pos := _, after := #[], guard := none }) (v := ?_) rfl (by kernel_rfl) (by kernel_rfl) (by kernel_rfl) (fun _ _ _ h => h) (Or.inl ⟨by rfl, ?_⟩) (by assumption) ?_
          rotate_left
          · intro w hSw; (try dsimp only at hSw); go_simp; (try with_reducible rfl)
          try simp only [Act.put, List.setIfInBounds_toArray, List.set_cons_zero, List.set_cons_succ]
          refine wpAnyH_ready (rs := [3]) (by kernel_rfl) (by simp) ?_
          refine AllReadyH.cons (o := { dst := some 45, op := Op.call { callee := Callee.builtin Builtin.append, args := #[Operand.const (Value.slice none 0 0), Operand.tmp 44], argTypes := #[26, 26] }, type := 26, pos := _, after := #[{ on := 2, ground := Ground.data }], guard := none }) rfl (fun K hK => ?_) AllReadyH.nil
          have B1 := Lib.hid (show Below w.heap.size w w.drew from below_drewN (Below.refl _ _) 1)
          obtain ⟨v3, w3, hrun3, ho3, hg3, -⟩ := run_append_own (P := Tryz.prog) w.drew w.heap.size 26 26 3 i0 (.int .i64 0) 1 8 Tryz.underlying26 HI0.out HZ0.out HZ1.out HZ2.out rfl (by decide) (.slice none 0 0) 0 [] (World.ownsRow_nil _ _ _ _) a k c ((ints l).take k) (by rw [List.length_take, ints_length, HN.out]; omega) (fun j u hj => by
            obtain ⟨a', e, -, h2⟩ := (HR.out.later B1.out).read j u (take_get hj)
            injection e with e
            subst e
            exact h2) (fun u hu => ints_one (List.mem_of_mem_take hu)) (by unfold maxLen; omega) (by omega) (Nat.le_refl _)
          obtain ⟨A3, c3, rfl⟩ := own_slice ho3
          have B3 := Lib.hid (B1.out.grown hg3 (Nat.le_refl _) (fun k hk => by simp [Value.ownBlock] at hk))
          rw [Nat.zero_add] at hrun3 ho3
          rw [List.nil_append] at ho3
          have ho3 := Lib.hid ho3
          refine step_app_run (by rfl) (.const (.slice none 0 0)) (.tmp 44) 26 26 (by rfl) (.slice none 0 0) (.slice (some a) k c) (by rfl) (by rfl) hrun3 ?_
          clear hrun3 hg3
          refine hK.out _ _ ?_ (fun hHeld => ?_)
          · trivial
          clear hK K
          try simp only [Act.put, List.setIfInBounds_toArray, List.set_cons_zero, List.set_cons_succ]
          refine wpAnyH_ready (rs := [8]) (by kernel_rfl) (by simp) ?_
          refine AllReadyH.cons (o := { dst := some 50, op := Op.call { callee := Callee.builtin Builtin.append, args := #[Operand.tmp 45, Operand.tmp 49], argTypes := #[26, 26] }, type := 26, pos := _, after := #[{ on := 3, ground := Ground.data }, { on := 7, ground := Ground.data }, { on := 3, ground := Ground.chain }], guard := none }) rfl (fun K hK => ?_) AllReadyH.nil
          obtain ⟨v8, w8, hrun8, ho8, hg8, -⟩ := run_append_own (P := Tryz.prog) w3 w.heap.size 26 26 3 i0 (.int .i64 0) 1 8 Tryz.underlying26 HI0.out HZ0.out HZ1.out HZ2.out rfl (by decide) (.slice A3 k c3) k ((ints l).take k) ho3.out (a.add (k + 1)) (n - (k + 1)) (c - (k + 1)) ((ints l).drop (k + 1)) (by rw [List.length_drop, ints_length, HN.out]; omega) (fun j u hj => by
            obtain ⟨a', e, -, h2⟩ := (HR.out.later B3.out).read (k + 1 + j) u (by rw [← List.getElem?_drop]; exact hj)
            injection e with e
            subst e
            have hjl : k + 1 + j < n := by have := (List.getElem?_eq_some_iff.1 hj).1; rw [List.length_drop, ints_length, HN.out] at this; omega
            first | (rw [Go.Deep.add_add]; exact h2) | (exfalso; omega)) (fun u hu => ints_one (List.mem_of_mem_drop hu)) (by unfold maxLen; omega) (by omega) B3.out.size
          obtain ⟨A8, c8, rfl⟩ := own_slice ho8
          have B8 := Lib.hid (B3.out.grown hg8 B3.out.size (fun k hk => own_base ho3.out hk))
          rw [erase_cells] at ho8
          have hl8 : k + (n - (k + 1)) = (l.eraseIdx k).length := by rw [List.length_eraseIdx, if_pos hkl, HN.out]; omega
          have hl9 : (l.eraseIdx k).length ≤ f := by rw [← hl8]; omega
          rw [hl8] at hrun8 ho8
          have hcl := IH.out (l.eraseIdx k) t2 A8 c8 w8 (Rd.of_own ho8) hl9 (by omega) hp2
          rw [← HNX.out] at hcl
          have HCL := Lib.hid hcl
          refine step_app_run (by rfl) (.tmp 45) (.tmp 49) 26 26 (by rfl) (.slice A3 k c3) (.slice (some (a.add (k + 1))) (n - (k + 1)) (c - (k + 1))) (by rfl) (by rfl) hrun8 ?_
          clear hrun8 hg8 ho8 hcl
          refine hK.out _ _ ?_ (fun hHeld => ?_)
          · trivial
          clear hK K
          try simp only [Act.put, List.setIfInBounds_toArray, List.set_cons_zero, List.set_cons_succ]
          refine wpAnyH_ready (rs := [10]) (by kernel_rfl) (by simp) ?_
          refine AllReadyH.cons (o := { dst := some 52, op := Op.call { callee := Callee.value (Operand.func 33), args := #[Operand.tmp 50, Operand.tmp 51], argTypes := #[26, 70] }, type := 71, pos := _, after := #[{ on := 8, ground := Ground.data }, { on := 9, ground := Ground.data }, { on := 8, ground := Ground.chain }], guard := none }) rfl (fun K hK => ?_) AllReadyH.nil
          go_simp
          with_reducible refine HCL.out.mono ?_
          rintro e w10 ⟨A10, c10, rfl, hb10, hr10⟩
          have B10 := Lib.hid (B8.out.trans (hb10.mono B8.out.size))
          have R10 := Lib.hid hr10
          clear hb10 hr10
          refine hK.out _ _ ?_ (fun hHeld => ?_)
          · trivial
          clear hK K
          try simp only [Act.put, List.setIfInBounds_toArray, List.set_cons_zero, List.set_cons_succ]
          refine wpAnyH_take (i := 11) (oi := { dst := some 53, op := Op.extract (Operand.tmp 52) 0, type := 26, pos := _, after := #[{ on := 10, ground := Ground.data }], guard := none }) (v := ?_) rfl (by kernel_rfl) (by kernel_rfl) (by kernel_rfl) (fun _ _ _ h => h) (Or.inl ⟨by rfl, ?_⟩) (by assumption) ?_
          rotate_left
          · intro w hSw; (try dsimp only at hSw); go_simp; (try with_reducible rfl)
          try simp only [Act.put, List.setIfInBounds_toArray, List.set_cons_zero, List.set_cons_succ]
          refine wpAnyH_take (i := 12) (oi := { dst := some 54, op := Op.extract (Operand.tmp 52) 1, type := 70, pos := _, after := #[{ on := 10, ground := Ground.data }], guard := none }) (v := ?_) rfl (by kernel_rfl) (by kernel_rfl) (by kernel_rfl) (fun _ _ _ h => h) (Or.inl ⟨by rfl, ?_⟩) (by assumption) ?_
          rotate_left
          · intro w hSw; (try dsimp only at hSw); go_simp; (try with_reducible rfl)
          try simp only [Act.put, List.setIfInBounds_toArray, List.set_cons_zero, List.set_cons_succ]
          refine wpAnyH_take (i := 13) (oi := { dst := some 4, op := Op.assign (Operand.tmp 53), type := 26, pos := _, after := #[{ on := 11, ground := Ground.data }, { on := 10, ground := Ground.chain }, { on := 0, ground := Ground.phase }, { on := 1, ground := Ground.phase }, { on := 2, ground := Ground.phase }, { on := 3, ground := Ground.phase }, { on := 4, ground := Ground.phase }, { on := 5, ground := Ground.phase }, { on := 6, ground := Ground.phase }, { on := 7, ground := Ground.phase }, { on := 8, ground := Ground.phase }, { on := 9, ground := Ground.phase }, { on := 10, ground := Ground.phase }, { on := 11, ground := Ground.phase }, { on := 12, ground := Ground.phase }], guard := none }) (v := ?_) rfl (by kernel_rfl) (by kernel_rfl) (by kernel_rfl) (fun _ _ _ h => h) (Or.inl ⟨by rfl, ?_⟩) (by assumption) ?_
          rotate_left
          · intro w hSw; (try dsimp only at hSw); go_simp; (try with_reducible rfl)
          try simp only [Act.put, List.setIfInBounds_toArray, List.set_cons_zero, List.set_cons_succ]
          refine wpAnyH_take (i := 14) (oi := { dst := some 5, op := Op.assign (Operand.tmp 54), type := 70, pos := _, after := #[{ on := 12, ground := Ground.data }, { on := 13, ground := Ground.chain }, { on := 0, ground := Ground.phase }, { on := 1, ground := Ground.phase }, { on := 2, ground := Ground.phase }, { on := 3, ground := Ground.phase }, { on := 4, ground := Ground.phase }, { on := 5, ground := Ground.phase }, { on := 6, ground := Ground.phase }, { on := 7, ground := Ground.phase }, { on := 8, ground := Ground.phase }, { on := 9, ground := Ground.phase }, { on := 10, ground := Ground.phase }, { on := 11, ground := Ground.phase }, { on := 12, ground := Ground.phase }, { on := 13, ground := Ground.phase }], guard := none }) (v := ?_) rfl (by kernel_rfl) (by kernel_rfl) (by kernel_rfl) (fun _ _ _ h => h) (Or.inl ⟨by rfl, ?_⟩) (by assumption) ?_
          rotate_left
          · intro w hSw; (try dsimp only at hSw); go_simp; (try with_reducible rfl)
          try simp only [Act.put, List.setIfInBounds_toArray, List.set_cons_zero, List.set_cons_succ]
          refine wpAnyH_done (by kernel_rfl) ?_ _
          clear hHeld
          go_wp2_with fail
          go_ret2
          exact ⟨A10, c10, rfl, B10.out, R10.out⟩
        have hn1 := selTo_next k i
        have hn2 := pkTo_next k t i
        rw [HP.out] at hn1 hn2
        have hd1 := and1_i64 (i / p) (Nat.lt_of_le_of_lt (Nat.div_le_self i p) (by omega))
        have hd2 : (i : Int) / (p : Int) = ((i / p : Nat) : Int) := by omega
        obtain ⟨d, hd⟩ : ∃ d, i / p = d := ⟨_, rfl⟩
        obtain ⟨b, hb⟩ : ∃ b, d % 2 = b := ⟨_, rfl⟩
        rw [hd] at hd1 hd2 hn1 hn2
        rw [hb] at hd1 hn1 hn2
        have hb01 : b = 0 ∨ b = 1 := by omega
        have HN1 := Lib.hid hn1
        have HN2 := Lib.hid hn2
        have hi16 : i < 16 := by omega
        clear hd hb hn1 hn2
        rcases hb01 with rfl | rfl
        case inr =>
          have h1 := HN1.out
          have h2 := HN2.out
          rw [if_neg (by decide)] at h1 h2
          have H1 := Lib.hid h1
          have H2 := Lib.hid h2
          clear h1 h2
          go_wp2_with fail
          go_round
          case rel => exact ⟨i + 1, by omega, by go_num, by rw [H2.out], by rw [H1.out]⟩
          case measure => simp [intOf]; omega
        have h1 := HN1.out
        have h2 := HN2.out
        rw [if_pos rfl] at h1 h2
        have h3 : (selTo k (i + 1)).length = (selTo k i).length + 1 := by rw [h1]; simp
        have hpi : pkTo k t i < 2 ^ 16 := Nat.lt_of_lt_of_le hpl (Nat.pow_le_pow_right (n := 2) (by omega) (by omega))
        generalize pkTo k t i = s at h2 hpi
        generalize (selTo k i).length = j at h2 h3 hsl
        have H3 := Lib.hid h3
        obtain ⟨q, hq⟩ : ∃ q, 2 ^ i = q := ⟨_, rfl⟩
        have hq1 : 1 ≤ q := by rw [← hq]; exact Nat.two_pow_pos _
        have hspq := pow_nat hq
        obtain ⟨u, hu⟩ : ∃ u, 2 ^ j = u := ⟨_, rfl⟩
        have hu16 : u ≤ 32768 := by rw [← hu]; exact Nat.pow_le_pow_right (n := 2) (j := 15) (by omega) (by omega)
        have hspu := pow_nat hu
        rw [hq, hu] at h2
        have hd3 := u64_and1 (t / q) (Nat.lt_of_le_of_lt (Nat.div_le_self t q) (by omega))
        have hd4 : (t : Int) / (q : Int) = ((t / q : Nat) : Int) := by omega
        obtain ⟨d3, hd⟩ : ∃ d, t / q = d := ⟨_, rfl⟩
        obtain ⟨b3, hb⟩ : ∃ b, d3 % 2 = b := ⟨_, rfl⟩
        rw [hd] at hd3 hd4 h2
        rw [hb] at hd3 h2
        have hb01 : b3 = 0 ∨ b3 = 1 := by omega
        have H2 := Lib.hid h2
        have hj16 : j < 16 := by omega
        clear hd hb h1 h2 h3 hq hu hpl hsl
        rcases hb01 with rfl | rfl
        · go_wp2_with fail
          go_round
          case rel => exact ⟨i + 1, by omega, by go_num, by rw [H2.out]; simp, by rw [H3.out]; go_num⟩
          case measure => simp [intOf]; omega
        · go_wp2_with fail
          go_round
          case rel => exact ⟨i + 1, by omega, by go_num, by rw [H2.out]; go_num, by rw [H3.out]; go_num⟩
          case measure => simp [intOf]; omega
end Go.Proofs.YtoloaecbfglaeaaGreat
