/- Walks of filigreeref31: a number's bytes, flags, the bytes of switches, the head, the tail, Put. -/
import Derived.Test.YtoloaecbfglaeaaByt
import Derived.Test.YtoloaecbfglaeaaRchkB
namespace Go.Proofs.Ytoloaecbfglaeaa
open Go.RowKit
set_option linter.unusedVariables false
set_option linter.unusedSimpArgs false

theorem own_down {w : World} {base base' : Nat} {e : TypeId} {size n : Nat} {v : Value} {xs : List Value} (h : w.ownsRow base e size v n xs) (hb : base' ≤ base) : w.ownsRow base' e size v n xs := by
  refine ⟨h.1, ?_⟩
  rcases h.2 with h2 | ⟨g, cap, cur, hv, hg, hh⟩
  · exact .inl h2
  · exact .inr ⟨g, cap, cur, hv, Nat.le_trans hb hg, hh⟩
def RowNew (L : List Nat) (w : World) (e : Ending) (w' : World) : Prop :=
  ∃ A c, e = .returned (.slice A L.length c) ∧ Below w.heap.size w w' ∧ w'.ownsRow w.heap.size 5 1 (.slice A L.length c) L.length (bys L)
theorem own_new (w : World) (base : Nat) (t : TypeId) (cs : List Value) (n : Nat) (hn : cs.length = n) (hm : n ≤ maxLen) (hb : base ≤ w.heap.size) : (w.alloc (.cells cs.toArray t)).ownsRow base t 1 (.slice (some ⟨w.heap.size, 0, none⟩) n n) n cs := by
  subst hn
  refine ⟨by simp, .inr ⟨w.heap.size, cs.length, cs.toArray, rfl, hb, ?_, Nat.le_refl _, hm, by simp, by simp⟩⟩
  have := Blk.made w t cs.toArray
  unfold Blk at this
  exact this
theorem and255_i64 (m : Nat) (h : m < 4294967296) : bits .and .i64 (m : Int) 255 % 256 = ((m % 256 : Nat) : Int) := by
  have e : bits .and .i64 (m : Int) 255 = IntKind.i64.wrap ((BitVec.ofInt 64 (m : Int) &&& BitVec.ofInt 64 255).toNat : Int) := rfl
  have h1 : (BitVec.ofInt 64 (m : Int)).toNat = m := by rw [BitVec.ofInt_natCast, BitVec.toNat_ofNat]; omega
  have h2 : (BitVec.ofInt 64 255).toNat = 2 ^ 8 - 1 := rfl
  rw [e, BitVec.toNat_and, h1, h2, Nat.and_two_pow_sub_one_eq_mod, IntWalk.i64_in _ (by omega)]
  omega
theorem and255_u32 (m : Nat) (h : m < 4294967296) : bits .and .u32 (m : Int) 255 % 256 = ((m % 256 : Nat) : Int) := by
  rw [show (255 : Int) = ((255 : Nat) : Int) from rfl, u32_and_nat m 255 h (by omega), show (255 : Nat) = 2 ^ 8 - 1 from rfl, Nat.and_two_pow_sub_one_eq_mod]
  omega
theorem rtwo_any (n : Int) (w : World) (hn : 0 ≤ n ∧ n ≤ 65535) :
    Calls Try.prog 52 #[.int .i64 n] w (RowNew (two n.toNat) w) := by
  obtain ⟨m, rfl⟩ : ∃ m : Nat, n = (m : Int) := ⟨n.toNat, by omega⟩
  obtain ⟨R, hR⟩ : ∃ R, RowNew (two ((m : Int)).toNat) w = R := ⟨_, rfl⟩
  rw [hR]
  have HR := Lib.hid hR
  clear hR
  go_enter Try.func52, Try.ntmps52
  go_wp2_with fail
  rw [← HR.out]
  have e1 : bits .and .i64 ((m : Int) / 256) 255 % 256 = ((m / 256 % 256 : Nat) : Int) := by
    rw [show (m : Int) / 256 = ((m / 256 : Nat) : Int) by omega]; exact and255_i64 _ (by omega)
  have e2 := and255_i64 m (by omega)
  rw [e1, e2]
  exact ⟨_, 2, rfl, below_new w _, own_new w _ 5 (bys (two m)) 2 rfl (by decide) (Nat.le_refl _)⟩
theorem rflags_any (t : TL) (w : World) :
    Calls Try.prog 53 #[.agg #[.int .i64 t.1, .bool t.2.1, .bool t.2.2]] w fun e w' => e = .returned (.int .u8 (flag t : Int)) ∧ Below w.heap.size w w' := by
  obtain ⟨x, ff, ini⟩ := t
  cases ff <;> cases ini
  all_goals
    go_enter Try.func53, Try.ntmps53
    go_wp2_with fail
    go_ret
    exact ⟨rfl, below_new w _⟩
theorem rtail_any (w : World) (A : Option Addr) (n c : Nat) (l : List Nat) (hr : Rd w 1 A n c (bys l)) (hl : ∀ x ∈ l, x < 256) (hn : n ≤ 100000000) :
    Calls Try.prog 55 #[.slice A n c] w (RowNew (four (sumB l)) w) := by
  have hs := sumB_lt l
  have hp := rsum_any w A n c l hr hl hn
  obtain ⟨s, hss⟩ : ∃ s, sumB l = s := ⟨_, rfl⟩
  rw [hss] at hs hp ⊢
  clear hss hl hr
  obtain ⟨R, hR⟩ : ∃ R, RowNew (four s) w = R := ⟨_, rfl⟩
  rw [hR]
  have HR := Lib.hid hR
  have HP := Lib.hid hp
  clear hR hp
  go_enter Try.func55, Try.ntmps55
  go_wp2_with fail
  refine HP.out.mono ?_
  rintro e w1 ⟨rfl, rfl⟩
  go_wp2_with fail
  rw [← HR.out]
  have e0 : (s : Int) / 16777216 = ((s / 16777216 % 256 : Nat) : Int) := by omega
  have e1 : bits .and .u32 ((s : Int) / 65536) 255 % 256 = ((s / 65536 % 256 : Nat) : Int) := by
    rw [show (s : Int) / 65536 = ((s / 65536 : Nat) : Int) by omega]; exact and255_u32 _ (by omega)
  have e2 : bits .and .u32 ((s : Int) / 256) 255 % 256 = ((s / 256 % 256 : Nat) : Int) := by
    rw [show (s : Int) / 256 = ((s / 256 : Nat) : Int) by omega]; exact and255_u32 _ (by omega)
  have e3 := and255_u32 s hs
  rw [e0, e1, e2, e3]
  exact ⟨_, 4, rfl, below_new _ _, own_new _ _ 5 (bys (four s)) 4 rfl (by decide) (Nat.le_refl _)⟩
set_option maxRecDepth 100000 in
theorem rnumber_any (w : World) (A : Option Addr) (n c : Nat) (l : List Nat) (k : Nat) (hr : Rd w 1 A n c (bys l)) (hl : ∀ x ∈ l, x < 256) (hk : k + 1 < n) (hn : n ≤ 100000000) :
    Calls Try.prog 59 #[.slice A n c, .int .i64 (k : Int)] w fun e w' => e = .returned (.int .i64 (num2 l k : Int)) ∧ Below w.heap.size w w' := by
  obtain ⟨a, rfl, -, c0⟩ := hr.byte (k := k) (by omega)
  obtain ⟨a', ha', -, c1⟩ := hr.byte (k := k + 1) hk
  obtain rfl := Option.some.inj ha'
  rw [show a.add (k + 1) = ⟨a.block, a.off + (k + 1), none⟩ by simp [Addr.add]] at c1
  have b0 := getD_lt hl k
  have b1 := getD_lt hl (k + 1)
  have hnum : (num2 l k : Int) = 256 * (l.getD k 0 : Int) + (l.getD (k + 1) 0 : Int) := by unfold num2; omega
  rw [hnum]
  generalize l.getD k 0 = x at c0 b0 ⊢
  generalize l.getD (k + 1) 0 = y at c1 b1 ⊢
  have k0 : (0 : Int) ≤ (k : Int) := by omega
  have k1 : (k : Int) < (n : Int) := by omega
  have k2 : (k : Int) + 1 < (n : Int) := by omega
  clear hnum ha' hr
  go_enter Try.func59, Try.ntmps59
  go_wp2_with fail
  have k3 : (0 : Int) ≤ (k : Int) + 1 := by omega
  have k4 : ((k : Int) + 1).toNat = k + 1 := by omega
  have w4 : IntKind.i64.wrap (x : Int) = (x : Int) := IntWalk.i64_in _ (by omega)
  have w5 : IntKind.i64.wrap (y : Int) = (y : Int) := IntWalk.i64_in _ (by omega)
  have w1 : IntKind.i64.wrap ((k : Int) + 1) = (k : Int) + 1 := IntWalk.i64_in _ (by omega)
  have w2 : IntKind.i64.wrap (256 * (x : Int)) = 256 * (x : Int) := IntWalk.i64_in _ (by omega)
  have w3 : IntKind.i64.wrap (256 * (x : Int) + (y : Int)) = 256 * (x : Int) + (y : Int) := IntWalk.i64_in _ (by omega)
  go_quiet (fail)
  clear w1 w2 w3 w4 w5
  go_wp2_with fail
  go_ret
  exact ⟨rfl, below_drewN (Below.refl _ _) _⟩

theorem byteB_snoc : ∀ (l : List Bool) (b : Bool), byteB (l ++ [b]) = byteB l + (if b then 2 ^ l.length else 0)
  | [], b => by simp [byteB]
  | a :: l, b => by
    have ih := byteB_snoc l b
    simp only [List.cons_append, byteB, ih, List.length_cons, Nat.pow_succ]
    split <;> split <;> omega
/-- the first k bits of the byte at q -/
def bitsTo (l : List Bool) (q k : Nat) : Nat := byteB ((l.drop (8 * q)).take k)
theorem bitsTo_next {l : List Bool} {q k : Nat} (h : 8 * q + k < l.length) : bitsTo l q (k + 1) = bitsTo l q k + (if l.getD (8 * q + k) false then 2 ^ k else 0) := by
  unfold bitsTo
  have h1 : k < (l.drop (8 * q)).length := by rw [List.length_drop]; omega
  rw [List.take_succ_eq_append_getElem h1, byteB_snoc, List.length_take, Nat.min_eq_left (by omega), List.getElem_drop, List.getD_eq_getElem?_getD, List.getElem?_eq_getElem h]
  rfl
theorem bitsTo_lt (l : List Bool) (q k : Nat) : bitsTo l q k < 2 ^ k := by
  unfold bitsTo
  have h1 := byteB_lt ((l.drop (8 * q)).take k)
  have h2 : ((l.drop (8 * q)).take k).length ≤ k := by rw [List.length_take]; omega
  exact Nat.lt_of_lt_of_le h1 (Nat.pow_le_pow_right (by omega) h2)
theorem bitsTo_full {l : List Bool} {q k : Nat} (h : k = 8 ∨ 8 * q + k = l.length ∧ k ≤ 8) : bitsTo l q k = byteB ((l.drop (8 * q)).take 8) := by
  unfold bitsTo
  rcases h with rfl | ⟨h1, h2⟩
  · rfl
  · rw [List.take_of_length_le (l := l.drop (8 * q)) (by rw [List.length_drop]; omega), List.take_of_length_le (l := l.drop (8 * q)) (by rw [List.length_drop]; omega)]
def packTo (l : List Bool) (q : Nat) : List Nat := (List.range q).map fun i => byteB ((l.drop (8 * i)).take 8)
theorem packTo_next (l : List Bool) (q : Nat) : packTo l (q + 1) = packTo l q ++ [byteB ((l.drop (8 * q)).take 8)] := by simp [packTo, List.range_succ]

theorem shl_add (s k : Nat) (h : 2 ^ k ≤ 2 ^ 8) (hs : s < 2 ^ k) : wrap64 ((s : Int) + wrap64 (2 ^ k)) = ((s + (if true = true then 2 ^ k else 0) : Nat) : Int) := by
  have e : ((2 : Int) ^ k) = ((2 ^ k : Nat) : Int) := by rw [Int.natCast_pow]; rfl
  rw [e]
  generalize 2 ^ k = p at h hs
  have h1 : wrap64 (p : Int) = (p : Int) := by unfold wrap64; omega
  rw [h1, if_pos rfl]
  unfold wrap64
  omega
set_option maxRecDepth 100000 in
set_option maxHeartbeats 4000000 in
theorem rpacked_any (w : World) (A : Option Addr) (n c : Nat) (l : List Bool) (hr : Rd w 1 A n c (bools l)) (hn : n ≤ 50000) :
    Calls Try.prog 54 #[.slice A n c] w (RowNew (packB l) w) := by
  have hll : l.length = n := by have := hr.len; rw [bools_length] at this; omega
  obtain ⟨R, hR⟩ : ∃ R, RowNew (packB l) w = R := ⟨_, rfl⟩
  rw [hR]
  have HR := Lib.hid hR
  have H := Lib.hid hr
  have HLL := Lib.hid hll
  clear hR hr hll
  go_enter Try.func54, Try.ntmps54
  go_wp2_with fail
  go_loopw [3, 4] (fun v i wx => ∃ (q : Nat) (A' : Option Addr) (c' : Nat), 8 * q ≤ n + 7 ∧ i = .int .i64 ((8 * q : Nat) : Int) ∧ v = .slice A' q c' ∧ Below w.heap.size w wx ∧ wx.ownsRow w.heap.size 5 1 (.slice A' q c') q (bys (packTo l q))) (fun _ i _ => n - (intOf i).toNat)
  case atStart => exact ⟨0, none, 0, by omega, rfl, rfl, Below.refl _ _, World.ownsRow_nil _ _ _ _⟩
  case round =>
    obtain ⟨q, A1, c1, hq, rfl, rfl, hb, ho⟩ := hrel
    have HB := Lib.hid hb
    have HO := Lib.hid ho
    have hsz := hb.size
    clear hb ho
    by_cases hlt : 8 * q < n
    · have hnx := packTo_next l q
      have HNX := Lib.hid hnx
      clear hnx
      obtain ⟨i8, hi8⟩ : ∃ i8, 8 * q = i8 := ⟨_, rfl⟩
      have HI8 := Lib.hid hi8
      have hq2 : q ≤ 7000 := by omega
      rw [hi8] at hq hlt ⊢
      clear hi8
      go_wp2_with fail
      go_loop [5, 6] (fun s i => ∃ k : Nat, k ≤ 8 ∧ i8 + k ≤ n ∧ i = .int .i64 (k : Int) ∧ s = .int .i64 (bitsTo l q k : Int)) (fun _ i => 8 - (intOf i).toNat)
      case atStart => exact ⟨0, by omega, by omega, rfl, by simp [bitsTo, byteB]⟩
      case round =>
        obtain ⟨k, hk, hkn, rfl, rfl⟩ := hrel
        by_cases hk8 : k < 8
        · by_cases hkn2 : i8 + k < n
          · obtain ⟨a, rfl, -, c0⟩ := (H.out.later HB.out).bool hkn2
            have hbn := bitsTo_next (l := l) (q := q) (k := k) (by rw [HI8.out, HLL.out]; exact hkn2)
            have hbl := bitsTo_lt l q k
            have hp8 : 2 ^ k ≤ 2 ^ 8 := Nat.pow_le_pow_right (by omega) hk
            rw [HI8.out] at hbn
            have HBN := Lib.hid hbn
            clear hbn
            obtain ⟨j, hj⟩ : ∃ j, i8 + k = j := ⟨_, rfl⟩
            have hji : (i8 : Int) + (k : Int) = (j : Int) := by omega
            rw [hj] at c0 hkn2 HBN
            clear hj
            generalize bitsTo l q k = s at hbl HBN
            cases hbv : l.getD j false with
            | true =>
              rw [hbv] at c0 HBN
              clear hbv
              go_wp2_with fail
              go_round
              case rel => exact ⟨k + 1, by omega, by omega, by go_num, by rw [HBN.out]; exact congrArg _ (shl_add s k hp8 hbl)⟩
              case measure => simp [intOf]; omega
            | false =>
              rw [hbv] at c0 HBN
              clear hbv
              go_wp2_with fail
              go_round
              case rel => exact ⟨k + 1, by omega, by omega, by go_num, by rw [HBN.out]; rfl⟩
              case measure => simp [intOf]; omega
          · have hd : decide ((i8 : Int) + (k : Int) < (n : Int)) = false := decide_eq_false (by omega)
            have hful := bitsTo_full (l := l) (q := q) (k := k) (.inr ⟨by rw [HI8.out, HLL.out]; omega, hk⟩)
            have HF := Lib.hid hful
            have hbl := bitsTo_lt l q k
            have hp8 : 2 ^ k ≤ 2 ^ 8 := Nat.pow_le_pow_right (by omega) hk
            clear hful
            generalize bitsTo l q k = s at hbl HF
            have hs : (s : Int) % 256 = (s : Int) := by omega
            have hrd := rd_bys1 wr 5 s (s : Int) rfl
            go_wp2_with (at_builtin; refine wpList_app_bys rfl (.tmp 36) (.tmp 39) rfl w.heap.size A1 q c1 (packTo l q) rfl (HO.out.alloc _) (some ⟨wr.heap.size, 0, none⟩) 1 1 [s] rfl hrd (by omega) (by simp; omega) ?_)
            intro A2 c2 w2 hown2 hg2
            have B2 := Lib.hid ((HB.out.alloc hsz (.cells #[.int .u8 (s : Int)] 5)).grown hg2 (by simp; omega) (fun j hj => own_base HO.out hj))
            have O2 := Lib.hid hown2
            clear hown2 hg2 hrd
            go_wp2_with fail
            go_roundw
            case rel => exact ⟨q + 1, A2, c2, by have := HI8.out; omega, by have := HI8.out; go_num, rfl, B2.out, by rw [HNX.out, ← HF.out]; exact O2.out⟩
            case measure => have := HI8.out; simp [intOf]; omega
        · obtain rfl : k = 8 := by omega
          have hful := bitsTo_full (l := l) (q := q) (k := 8) (.inl rfl)
          have HF := Lib.hid hful
          have hbl := bitsTo_lt l q 8
          clear hful
          generalize bitsTo l q 8 = s at hbl HF
          have hs : (s : Int) % 256 = (s : Int) := by omega
          have hrd := rd_bys1 wr 5 s (s : Int) rfl
          go_wp2_with (at_builtin; refine wpList_app_bys rfl (.tmp 36) (.tmp 39) rfl w.heap.size A1 q c1 (packTo l q) rfl (HO.out.alloc _) (some ⟨wr.heap.size, 0, none⟩) 1 1 [s] rfl hrd (by omega) (by simp; omega) ?_)
          intro A2 c2 w2 hown2 hg2
          have B2 := Lib.hid ((HB.out.alloc hsz (.cells #[.int .u8 (s : Int)] 5)).grown hg2 (by simp; omega) (fun j hj => own_base HO.out hj))
          have O2 := Lib.hid hown2
          clear hown2 hg2 hrd
          go_wp2_with fail
          go_roundw
          case rel => exact ⟨q + 1, A2, c2, by have := HI8.out; omega, by have := HI8.out; go_num, rfl, B2.out, by rw [HNX.out, ← HF.out]; exact O2.out⟩
          case measure => have := HI8.out; simp [intOf]; omega
    · have hqe : q = (n + 7) / 8 := by omega
      have hpk : packTo l q = packB l := by unfold packB packTo; rw [HLL.out, hqe]
      have hpl : (packB l).length = q := by rw [packB_len, HLL.out, hqe]
      have hd : decide (8 * q < n) = false := decide_eq_false (by omega)
      have HPK := Lib.hid hpk
      have HPL := Lib.hid hpl
      clear hqe hpk hpl
      obtain ⟨i8, hi8⟩ : ∃ i8, 8 * q = i8 := ⟨_, rfl⟩
      rw [hi8] at hd ⊢
      clear hi8
      go_wp2_with fail
      rw [← HR.out]
      exact ⟨A1, c1, by rw [HPL.out]; rfl, HB.out, by rw [HPL.out, ← HPK.out]; exact HO.out⟩

theorem rtwo2 (n : Int) (w : World) (hn : 0 ≤ n ∧ n ≤ 65535) :
    Calls Try.prog 52 #[.int .i64 n] w fun e w' => ∃ A c, e = .returned (.slice A 2 c) ∧ Below w.heap.size w w' ∧ w'.ownsRow w.heap.size 5 1 (.slice A 2 c) 2 (bys (two n.toNat)) := rtwo_any n w hn
/-- the seven first bytes -/
def seven (C : Cfg) : List Nat := [70, 71, 66, 49, C.W.toNat, C.H.toNat, C.T.toNat]
theorem seven_cells {C : Cfg} (h : okA C.W C.H C.T) : [Value.int .u8 70, .int .u8 71, .int .u8 66, .int .u8 49, .int .u8 C.W, .int .u8 C.H, .int .u8 C.T] = bys (seven C) := by
  unfold okA at h
  have e1 : (C.W.toNat : Int) = C.W := by omega
  have e2 : (C.H.toNat : Int) = C.H := by omega
  have e3 : (C.T.toNat : Int) = C.T := by omega
  simp only [bys, seven, List.map_cons, List.map_nil, e1, e2, e3]
  rfl
theorem own_seven {C : Cfg} (h : okA C.W C.H C.T) (w : World) (base : Nat) (hb : base ≤ w.heap.size) :
    (w.alloc (.cells #[.int .u8 70, .int .u8 71, .int .u8 66, .int .u8 49, .int .u8 C.W, .int .u8 C.H, .int .u8 C.T] 5)).ownsRow base 5 1 (.slice (some ⟨w.heap.size, 0, none⟩) 7 7) 7 (bys (seven C)) := by
  have := own_new w base 5 (bys (seven C)) 7 rfl (by decide) hb
  rw [← seven_cells h] at this ⊢
  exact this
def RHEAD (C : Cfg) (w : World) (R : Ending → World → Prop) : Prop :=
  Calls Try.prog 51 #[.agg #[.int .i64 C.W, .int .i64 C.H, .int .i64 C.T, .slice C.AT C.tiles.length C.cT, .slice C.AO C.on.length C.cO, .slice C.AI C.ins.length C.cI, .slice C.AU C.outs.length C.cU]] w R
set_option maxRecDepth 100000 in
set_option maxHeartbeats 2000000 in
theorem rhead_any (C : Cfg) (w : World) (hf : C.few) (h : okA C.W C.H C.T) : RHEAD C w (RowNew (headB C.W C.H C.T C.ins.length C.outs.length) w) := by
  unfold RHEAD
  have f1 := hf.2.2.1
  have f2 := hf.2.2.2
  have hh := h
  unfold okA at hh
  obtain ⟨R, hR⟩ : ∃ R, RowNew (headB C.W C.H C.T C.ins.length C.outs.length) w = R := ⟨_, rfl⟩
  rw [hR]
  have HR := Lib.hid hR
  have mW : C.W % 256 = C.W := by omega
  have mH : C.H % 256 = C.H := by omega
  have mT : C.T % 256 = C.T := by omega
  have Q0 := below_new w (.cells #[.int .i64 C.W, .int .i64 C.H, .int .i64 C.T, .slice C.AT C.tiles.length C.cT, .slice C.AO C.on.length C.cO, .slice C.AI C.ins.length C.cI, .slice C.AU C.outs.length C.cU] 28)
  have B0 := Box7.new w C 28
  have HH := Lib.hid h
  clear hR hf h
  go_enter Try.func51, Try.ntmps51
  go_wp2_with fail
  refine (rtwo2 _ _ (by omega)).mono ?_
  rintro e w1 ⟨A1, c1, rfl, hb1, ho1⟩
  have O0 := own_seven HH.out (w.alloc (.cells #[.int .i64 C.W, .int .i64 C.H, .int .i64 C.T, .slice C.AT C.tiles.length C.cT, .slice C.AO C.on.length C.cO, .slice C.AI C.ins.length C.cI, .slice C.AU C.outs.length C.cU] 28)) (w.heap.size + 1) (by simp)
  have O1 := Lib.hid (own_keep O0 hb1)
  have R1 := Lib.hid (Rd.of_own ho1)
  have Q1 := Lib.hid (below_then (below_then Q0 (below_new _ (.cells #[.int .u8 70, .int .u8 71, .int .u8 66, .int .u8 49, .int .u8 C.W, .int .u8 C.H, .int .u8 C.T] 5))) hb1)
  have B1 := Lib.hid (Box7.below (Box7.below B0 (below_new _ (.cells #[.int .u8 70, .int .u8 71, .int .u8 66, .int .u8 49, .int .u8 C.W, .int .u8 C.H, .int .u8 C.T] 5))) hb1)
  have s1 : w.heap.size + 1 ≤ w1.heap.size := B1.out.lt
  clear hb1 ho1 O0 B0 Q0 mW mH mT
  rw [World.size_alloc] at O1
  go_wp2_with (at_builtin; refine wpList_app_bys rfl (.tmp 17) (.tmp 21) rfl (w.heap.size + 1) (some ⟨w.heap.size + 1, 0, none⟩) 7 7 (seven C) rfl O1.out A1 2 c1 (two C.ins.length) rfl R1.out (by omega) s1 ?_)
  intro A2 c2 w2 hown2 hg2
  have b2 : Below (w.heap.size + 1) w1 w2 := (Below.refl _ _).grown hg2 s1 (fun j hj => own_base O1.out hj)
  have Q2 := Lib.hid (Q1.out.trans (b2.mono (by omega)))
  have B2 := Lib.hid (box7_low B1.out b2 (by omega))
  have O2 := Lib.hid hown2
  have s2 : w.heap.size + 1 ≤ w2.heap.size := B2.out.lt
  clear hown2 hg2 b2 s1
  obtain ⟨z2, k0, k1, k2, k3, k4, k5, k6⟩ := B2.out
  go_wp2_with fail
  refine (rtwo2 _ _ (by omega)).mono ?_
  rintro e w3 ⟨A3, c3, rfl, hb3, ho3⟩
  have O3 := Lib.hid (own_keep O2.out hb3)
  have R3 := Lib.hid (Rd.of_own ho3)
  have Q3 := Lib.hid (below_then Q2.out hb3)
  have s3 : w.heap.size + 1 ≤ w3.heap.size := by have := hb3.size; omega
  clear hb3 ho3 z2 k0 k1 k2 k3 k4 k5 k6
  go_wp2_with (at_builtin; refine wpList_app_bys rfl (.tmp 23) (.tmp 27) rfl (w.heap.size + 1) A2 9 c2 (seven C ++ two C.ins.length) rfl O3.out A3 2 c3 (two C.outs.length) rfl R3.out (by omega) s3 ?_)
  intro A4 c4 w4 hown4 hg4
  have b4 : Below (w.heap.size + 1) w3 w4 := (Below.refl _ _).grown hg4 s3 (fun j hj => own_base O3.out hj)
  have Q4 := Lib.hid (Q3.out.trans (b4.mono (by omega)))
  have O4 := Lib.hid hown4
  clear hown4 hg4 b4
  go_wp2_with fail
  rw [← HR.out]
  exact ⟨A4, c4, rfl, Q4.out, own_down O4.out (by omega)⟩

/-- the bytes of the first k tiles, of the first k pads -/
def tilesTo (l : List TL) (k : Nat) : List Nat := (l.take k).flatMap tileB
theorem tilesTo_next {l : List TL} {k : Nat} (h : k < l.length) : tilesTo l (k + 1) = tilesTo l k ++ two (l[k]!).1.toNat ++ [flag (l[k]!)] := by
  unfold tilesTo
  rw [List.take_succ_eq_append_getElem h, List.flatMap_append, getElem!_pos l k h, List.append_assoc]
  simp [tileB]
theorem tilesTo_len {l : List TL} {k : Nat} (h : k ≤ l.length) : (tilesTo l k).length = 3 * k := by
  unfold tilesTo
  rw [flat_len tileB_len, List.length_take]; omega
def padsTo (l : List Int) (k : Nat) : List Nat := (l.take k).flatMap padB
theorem padsTo_next {l : List Int} {k : Nat} (h : k < l.length) : padsTo l (k + 1) = padsTo l k ++ two (l.getD k 0).toNat := by
  unfold padsTo
  rw [List.take_succ_eq_append_getElem h, List.flatMap_append, List.getD_eq_getElem?_getD, List.getElem?_eq_getElem h]
  simp [padB]
theorem padsTo_len {l : List Int} {k : Nat} (h : k ≤ l.length) : (padsTo l k).length = 2 * k := by
  unfold padsTo
  rw [flat_len padB_len, List.length_take]; omega

def RPUT (C : Cfg) (w : World) (R : Ending → World → Prop) : Prop :=
  Calls Try.prog 18 #[.agg #[.int .i64 C.W, .int .i64 C.H, .int .i64 C.T, .slice C.AT C.tiles.length C.cT, .slice C.AO C.on.length C.cO, .slice C.AI C.ins.length C.cI, .slice C.AU C.outs.length C.cU]] w R
/-- a configuration's bytes, its body -/
def Cfg.body (C : Cfg) : List Nat := bodyB C.W C.H C.T C.tiles C.on C.ins C.outs
def Cfg.bytes (C : Cfg) : List Nat := putB C.W C.H C.T C.tiles C.on C.ins C.outs
def BytesOut (C : Cfg) (w : World) (e : Ending) (w' : World) : Prop :=
  ∃ A c, e = .returned (.tuple #[.slice A C.bytes.length c, .int .i64 0]) ∧ Below w.heap.size w w' ∧ w'.ownsRow w.heap.size 5 1 (.slice A C.bytes.length c) C.bytes.length (bys C.bytes)
set_option maxRecDepth 100000 in
set_option maxHeartbeats 1000000 in
theorem rput_no (C : Cfg) (w : World) (hin : C.In w) (hf : C.few) (h : ¬ C.ok) : RPUT C w fun e w' => e = .returned (.tuple #[.slice none 0 0, .int .i64 1]) ∧ Below w.heap.size w w' := by
  unfold RPUT
  have hE : C.E = 1 := if_neg h
  have hb := rcheck31_any C _ (hin.later (below_new w (.cells #[.int .i64 C.W, .int .i64 C.H, .int .i64 C.T, .slice C.AT C.tiles.length C.cT, .slice C.AO C.on.length C.cO, .slice C.AI C.ins.length C.cI, .slice C.AU C.outs.length C.cU] 28))) hf
  unfold RCH at hb
  rw [hE] at hb
  have HB := Lib.hid hb
  have Q0 := below_new w (.cells #[.int .i64 C.W, .int .i64 C.H, .int .i64 C.T, .slice C.AT C.tiles.length C.cT, .slice C.AO C.on.length C.cO, .slice C.AI C.ins.length C.cI, .slice C.AU C.outs.length C.cU] 28)
  clear hb hE
  go_enter Try.func18, Try.ntmps18
  go_wp2_with fail
  refine (HB.out).mono ?_
  rintro e w1 ⟨rfl, hb1⟩
  have Q1 := below_then Q0 hb1
  clear hb1
  go_wp2_with fail
  go_ret2
  exact ⟨rfl, Q1⟩
/-- what may be is small -/
theorem ok_tile {C : Cfg} (h : C.ok) {k : Nat} (hk : k < C.tiles.length) : 0 ≤ (C.tiles[k]!).1 ∧ (C.tiles[k]!).1 ≤ 65535 := by
  have ho := h.2.2.2.2
  rw [List.any_eq_false] at ho
  have := ho C.tiles[k] (List.getElem_mem hk)
  rw [getElem!_pos C.tiles k hk]
  unfold oddB at this
  simp only [Bool.or_eq_true, decide_eq_true_eq, not_or] at this
  omega
theorem ok_pad {C : Cfg} (h : C.ok) {k : Nat} (hk : k < (C.ins ++ C.outs).length) : 0 ≤ (C.ins ++ C.outs).getD k 0 ∧ (C.ins ++ C.outs).getD k 0 ≤ 65535 := by
  have hh := h.1
  unfold okA at hh
  have h1 := h.2.1.1 (C.ins ++ C.outs)[k] (List.getElem_mem hk)
  rw [List.getD_eq_getElem?_getD, List.getElem?_eq_getElem hk]
  simp only [Option.getD_some]
  omega

set_option maxRecDepth 100000 in
set_option maxHeartbeats 8000000 in
theorem rput_yes (C : Cfg) (w : World) (hin : C.In w) (hf : C.few) (h : C.ok) : RPUT C w (BytesOut C w) := by
  unfold RPUT
  have hE : C.E = 0 := if_pos h
  have hb := rcheck31_any C _ (hin.later (below_new w (.cells #[.int .i64 C.W, .int .i64 C.H, .int .i64 C.T, .slice C.AT C.tiles.length C.cT, .slice C.AO C.on.length C.cO, .slice C.AI C.ins.length C.cI, .slice C.AU C.outs.length C.cU] 28))) hf
  unfold RCH at hb
  rw [hE] at hb
  have HB := Lib.hid hb
  have HH := Lib.hid h
  have HI := Lib.hid hin
  have f0 := hf.1
  have f1 := hf.2.2.1
  have f2 := hf.2.2.2
  have f3 := hf.2.1
  have hhd := fun (w' : World) => rhead_any C w' hf h.1
  simp only [RHEAD] at hhd
  have HHD := Lib.hid hhd
  have hpd := fun (w' : World) (hb : Below w.heap.size w w') => rpads31 C w' (hin.later hb) hf
  have HPD := Lib.hid hpd
  obtain ⟨R, hR⟩ : ∃ R, BytesOut C w = R := ⟨_, rfl⟩
  rw [hR]
  have HR := Lib.hid hR
  have Q0 := below_new w (.cells #[.int .i64 C.W, .int .i64 C.H, .int .i64 C.T, .slice C.AT C.tiles.length C.cT, .slice C.AO C.on.length C.cO, .slice C.AI C.ins.length C.cI, .slice C.AU C.outs.length C.cU] 28)
  have B0 := Box7.new w C 28
  clear hR hb hE hhd hpd h hin hf
  go_enter Try.func18, Try.ntmps18
  go_wp2_with fail
  refine (HB.out).mono ?_
  rintro e w1 ⟨rfl, hb1⟩
  have Q1 := below_then Q0 hb1
  have B1 := Box7.below B0 hb1
  clear hb1 HB
  obtain ⟨z1, k10, k11, k12, k13, k14, k15, k16⟩ := id B1
  go_wp2_with fail
  refine (HHD.out _).mono ?_
  rintro e w2 ⟨A2, c2, rfl, hb2, ho2⟩
  have hl2 : (headB C.W C.H C.T C.ins.length C.outs.length).length = 11 := headB_len _ _ _ _ _
  obtain ⟨hd, hhd⟩ : ∃ hd, headB C.W C.H C.T C.ins.length C.outs.length = hd := ⟨_, rfl⟩
  rw [hhd] at ho2 hl2 ⊢
  rw [hl2] at ho2 ⊢
  have HHB := Lib.hid hhd
  have HL2 := Lib.hid hl2
  have Q2 := Lib.hid (below_then Q1 hb2)
  have B2 := Lib.hid (Box7.below B1 hb2)
  have hs1 : w.heap.size + 1 ≤ w1.heap.size := B1.lt
  have O2 := Lib.hid (own_down ho2 hs1)
  clear hb2 ho2 hhd hl2 B0 B1 Q0 Q1 z1 k10 k11 k12 k13 k14 k15 k16 hs1 HHD
  obtain ⟨n, hn⟩ : ∃ n, C.tiles.length = n := ⟨_, rfl⟩
  have HN := Lib.hid hn
  go_wp2_with fail
  go_loopw [5, 6] (fun v i wx => ∃ (k : Nat) (A' : Option Addr) (c' : Nat), k ≤ n ∧ i = .int .i64 (k : Int) ∧ v = .slice A' (11 + 3 * k) c' ∧ Below w.heap.size w wx ∧ Box7 wx w.heap.size C ∧ wx.ownsRow (w.heap.size + 1) 5 1 (.slice A' (11 + 3 * k) c') (11 + 3 * k) (bys (hd ++ tilesTo C.tiles k))) (fun _ i _ => n - (intOf i).toNat)
  case atStart => exact ⟨0, A2, c2, by omega, rfl, rfl, Q2.out, B2.out, by simpa [tilesTo] using O2.out⟩
  case round =>
    clear Q2 B2 O2
    obtain ⟨k, A3, c3, hk, rfl, rfl, hq, hbx, ho⟩ := hrel
    have HQ := Lib.hid hq
    have HX := Lib.hid hbx
    have HO := Lib.hid ho
    obtain ⟨z, k0, k1, k2, k3, k4, k5, k6⟩ := id hbx
    rw [hn] at k3
    clear hq hbx ho
    by_cases hlt : k < n
    · have hkl : k < C.tiles.length := by rw [hn]; exact hlt
      have htt := fun (W : World) (hb : Below w.heap.size w W) => (HI.out.tiles.later hb).tile (k := k) hkl
      have HTT := Lib.hid htt
      clear htt
      have htl := ok_tile HH.out hkl
      have hnx := tilesTo_next hkl
      have HNX := Lib.hid hnx
      clear hnx
      generalize C.tiles[k]! = t at HTT htl HNX
      obtain ⟨a, ha, hab, t0, t1, t2⟩ := HTT.out _ HQ.out
      rw [ha] at k3
      have HAA := Lib.hid ha
      clear ha
      have hL : (11 + 3 * k : Nat) ≤ 4000 := by omega
      obtain ⟨lk, hlk⟩ : ∃ lk, 11 + 3 * k = lk := ⟨_, rfl⟩
      have HLK := Lib.hid hlk
      rw [hlk] at HO hL ⊢
      clear hlk
      obtain ⟨L, hL0⟩ : ∃ L, hd ++ tilesTo C.tiles k = L := ⟨_, rfl⟩
      have HL0 := Lib.hid hL0
      rw [hL0] at HO
      clear hL0
      go_wp2_with fail
      refine (rtwo2 _ _ htl).mono ?_
      rintro e w4 ⟨A4, c4, rfl, hb4, ho4⟩
      have O4 := Lib.hid (own_keep HO.out hb4)
      have R4 := Lib.hid (Rd.of_own ho4)
      have Q4 := Lib.hid (below_then HQ.out hb4)
      have B4 := Lib.hid (Box7.below HX.out hb4)
      have s4 : w.heap.size + 1 ≤ w4.heap.size := B4.out.lt
      clear hb4 ho4 z k0 k1 k2 k3 k4 k5 k6
      go_wp2_with (at_builtin; refine wpList_app_bys rfl (.tmp 23) (.tmp 30) rfl (w.heap.size + 1) A3 lk c3 L rfl O4.out A4 2 c4 (two t.1.toNat) rfl R4.out (by omega) s4 ?_)
      intro A5 c5 w5 hown5 hg5
      have b5 : Below (w.heap.size + 1) w4 w5 := (Below.refl _ _).grown hg5 s4 (fun j hj => own_base O4.out hj)
      have Q5 := Lib.hid (Q4.out.trans (b5.mono (by omega)))
      have B5 := Lib.hid (box7_low B4.out b5 (by omega))
      have O5 := Lib.hid hown5
      have s5 : w.heap.size + 1 ≤ w5.heap.size := B5.out.lt
      clear hown5 hg5 b5 s4 t0 t1 t2 hab
      obtain ⟨z, k0, k1, k2, k3, k4, k5, k6⟩ := B5.out
      obtain ⟨a', ha', -, t0, t1, t2⟩ := HTT.out _ Q5.out
      rw [HAA.out] at ha'
      obtain rfl := Option.some.inj ha'
      rw [hn, HAA.out] at k3
      clear ha'
      have hfl := fun (w' : World) => rflags_any t w'
      have HFL := Lib.hid hfl
      clear hfl
      go_wp2_with fail
      refine (HFL.out _).mono ?_
      rintro e w6 ⟨rfl, hb6⟩
      have O6 := Lib.hid (own_keep O5.out hb6)
      have Q6 := Lib.hid (below_then Q5.out hb6)
      have B6 := Lib.hid (Box7.below B5.out hb6)
      have s6 : w.heap.size + 1 ≤ w6.heap.size := B6.out.lt
      clear hb6 z k0 k1 k2 k3 k4 k5 k6 t0 t1 t2
      have hrd := rd_bys1 w6 5 (flag t) _ rfl
      go_wp2_with (at_builtin; refine wpList_app_bys rfl (.tmp 32) (.tmp 39) rfl (w.heap.size + 1) A5 (lk + 2) c5 (L ++ two t.1.toNat) rfl (O6.out.alloc _) (some ⟨w6.heap.size, 0, none⟩) 1 1 [flag t] rfl hrd (by omega) (by simp; omega) ?_)
      intro A7 c7 w7 hown7 hg7
      have b7 : Below (w.heap.size + 1) w6 w7 := ((below_new w6 _).mono s6).grown hg7 (by simp; omega) (fun j hj => own_base O6.out hj)
      have Q7 := Lib.hid (Q6.out.trans (b7.mono (by omega)))
      have B7 := Lib.hid (box7_low B6.out b7 (by omega))
      have O7 := Lib.hid hown7
      clear hown7 hg7 b7 hrd
      go_wp2_with fail
      go_roundw
      case rel =>
        refine ⟨k + 1, A7, c7, by omega, by go_num, by rw [show 11 + 3 * (k + 1) = lk + 2 + 1 by have := HLK.out; omega], Q7.out, B7.out, ?_⟩
        rw [show 11 + 3 * (k + 1) = lk + 2 + 1 by have := HLK.out; omega, HNX.out, ← List.append_assoc, ← List.append_assoc, HL0.out, List.append_assoc]
        exact O7.out
      case measure => simp [intOf]; omega
    · obtain rfl : k = n := by omega
      have hful : hd ++ tilesTo C.tiles k = hd ++ C.tiles.flatMap tileB := by unfold tilesTo; rw [List.take_of_length_le (by rw [hn]; exact Nat.le_refl _)]
      rw [hful] at HO
      clear hful
      obtain ⟨L, hL0⟩ : ∃ L, hd ++ C.tiles.flatMap tileB = L := ⟨_, rfl⟩
      have HL0 := Lib.hid hL0
      rw [hL0] at HO
      have hL : (11 + 3 * k : Nat) ≤ 4000 := by omega
      obtain ⟨lk, hlk⟩ : ∃ lk, 11 + 3 * k = lk := ⟨_, rfl⟩
      have HLK := Lib.hid hlk
      rw [hlk] at HO hL ⊢
      clear hlk hL0 hn
      go_wp2_with fail
      have hrp := fun (W : World) (hb : Below w.heap.size w W) => rpacked_any W C.AO C.on.length C.cO C.on (HI.out.on.later hb) f3
      refine (hrp _ HQ.out).mono ?_
      clear hrp
      rintro e w4 ⟨A4, c4, rfl, hb4, ho4⟩
      have hpl := packB_len C.on
      obtain ⟨lp, hlp⟩ : ∃ lp, (packB C.on).length = lp := ⟨_, rfl⟩
      have HLP := Lib.hid hlp
      rw [hlp] at ho4 hpl ⊢
      have hlp2 : lp ≤ 7000 := by omega
      have O4 := Lib.hid (own_keep HO.out hb4)
      have R4 := Lib.hid (Rd.of_own ho4)
      have Q4 := Lib.hid (below_then HQ.out hb4)
      have B4 := Lib.hid (Box7.below HX.out hb4)
      have s4 : w.heap.size + 1 ≤ w4.heap.size := B4.out.lt
      clear hb4 ho4 z k0 k1 k2 k3 k4 k5 k6 hlp hpl
      go_wp2_with (at_builtin; refine wpList_app_bys rfl (.tmp 41) (.tmp 44) rfl (w.heap.size + 1) A3 lk c3 L rfl O4.out A4 lp c4 (packB C.on) rfl R4.out (by omega) s4 ?_)
      intro A5 c5 w5 hown5 hg5
      have b5 : Below (w.heap.size + 1) w4 w5 := (Below.refl _ _).grown hg5 s4 (fun j hj => own_base O4.out hj)
      have Q5 := Lib.hid (Q4.out.trans (b5.mono (by omega)))
      have B5 := Lib.hid (box7_low B4.out b5 (by omega))
      have O5 := Lib.hid hown5
      clear hown5 hg5 b5 s4
      obtain ⟨z, k0, k1, k2, k3, k4, k5, k6⟩ := B5.out
      go_wp2_with fail
      refine (HPD.out _ Q5.out).mono ?_
      rintro e w6 ⟨A6, c6, rfl, ho6, hb6⟩
      obtain ⟨m, hm⟩ : ∃ m, (C.ins ++ C.outs).length = m := ⟨_, rfl⟩
      have HM := Lib.hid hm
      have hm2 : m ≤ 10000 := by rw [← hm, List.length_append]; omega
      rw [hm] at ho6 ⊢
      have O6 := Lib.hid (own_keep O5.out hb6)
      have P6 := Lib.hid ho6
      have Q6 := Lib.hid (below_then Q5.out hb6)
      have s6 : w.heap.size + 1 ≤ w6.heap.size := (Box7.below B5.out hb6).lt
      clear hb6 ho6 z k0 k1 k2 k3 k4 k5 k6 hm
      obtain ⟨L2, hL2⟩ : ∃ L2, L ++ packB C.on = L2 := ⟨_, rfl⟩
      have HL2 := Lib.hid hL2
      rw [hL2] at O6
      clear hL2
      obtain ⟨lq, hlq⟩ : ∃ lq, lk + lp = lq := ⟨_, rfl⟩
      have HLQ := Lib.hid hlq
      have hlq2 : lq ≤ 12000 := by omega
      rw [hlq] at O6 ⊢
      clear hlq
      obtain ⟨PL, hPL⟩ : ∃ PL, C.ins ++ C.outs = PL := ⟨_, rfl⟩
      have HPL := Lib.hid hPL
      have hpb : ∀ q, q < m → 0 ≤ PL.getD q 0 ∧ PL.getD q 0 ≤ 65535 := fun q hq => by rw [← hPL]; exact ok_pad HH.out (by rw [HM.out]; exact hq)
      have HPB := Lib.hid hpb
      rw [hPL] at P6 HM
      clear hPL hpb HPD
      go_wp2_with fail
      go_loopw [5, 8] (fun v i wx => ∃ (q : Nat) (A' : Option Addr) (c' : Nat), q ≤ m ∧ i = .int .i64 (q : Int) ∧ v = .slice A' (lq + 2 * q) c' ∧ Below w.heap.size w wx ∧ w.heap.size + 1 ≤ wx.heap.size ∧ wx.ownsRow w5.heap.size 3 1 (.slice A6 m c6) m (ints PL) ∧ wx.ownsRow (w.heap.size + 1) 5 1 (.slice A' (lq + 2 * q) c') (lq + 2 * q) (bys (L2 ++ padsTo PL q))) (fun _ i _ => m - (intOf i).toNat)
      case atStart => exact ⟨0, A5, c5, by omega, rfl, rfl, Q6.out, s6, P6.out, by simpa [padsTo] using O6.out⟩
      case round =>
        clear O6 P6 Q6 s6
        obtain ⟨q, A7, c7, hq, rfl, rfl, hb7, s7, hp7, ho7⟩ := hrel
        have Q7 := Lib.hid hb7
        have O7 := Lib.hid ho7
        have P7 := Lib.hid hp7
        clear hb7 ho7 hp7
        by_cases hqm : q < m
        · obtain ⟨a6, ha6, -, d0⟩ := (Rd.of_own P7.out).int hqm
          subst ha6
          have hpq := HPB.out q hqm
          have hnx := padsTo_next (l := PL) (k := q) (by rw [HM.out]; exact hqm)
          have HNX := Lib.hid hnx
          clear hnx
          generalize PL.getD q 0 = p at d0 hpq HNX
          obtain ⟨L3, hL3⟩ : ∃ L3, L2 ++ padsTo PL q = L3 := ⟨_, rfl⟩
          have HL3 := Lib.hid hL3
          rw [hL3] at O7
          clear hL3
          obtain ⟨lr, hlr⟩ : ∃ lr, lq + 2 * q = lr := ⟨_, rfl⟩
          have HLR := Lib.hid hlr
          have hlr2 : lr ≤ 40000 := by omega
          rw [hlr] at O7 ⊢
          clear hlr
          go_wp2_with fail
          refine (rtwo2 _ _ hpq).mono ?_
          rintro e w8 ⟨A8, c8, rfl, hb8, ho8⟩
          have O8 := Lib.hid (own_keep O7.out hb8)
          have P8 := Lib.hid (own_keep P7.out hb8)
          have R8 := Lib.hid (Rd.of_own ho8)
          have Q8 := Lib.hid (below_then Q7.out hb8)
          have s8 : w.heap.size + 1 ≤ w8.heap.size := by have := hb8.size; omega
          clear hb8 ho8 d0
          go_wp2_with (at_builtin; refine wpList_app_bys rfl (.tmp 54) (.tmp 59) rfl (w.heap.size + 1) A7 lr c7 L3 rfl O8.out A8 2 c8 (two p.toNat) rfl R8.out (by omega) s8 ?_)
          intro A9 c9 w9 hown9 hg9
          have b9 : Below (w.heap.size + 1) w8 w9 := (Below.refl _ _).grown hg9 s8 (fun j hj => own_base O8.out hj)
          have P9 := Lib.hid (own_grown P8.out O8.out (by decide) hg9)
          have Q9 := Lib.hid (Q8.out.trans (b9.mono (by omega)))
          have O9 := Lib.hid hown9
          have s9 : w.heap.size + 1 ≤ w9.heap.size := by have := b9.size; omega
          clear hown9 hg9 b9
          go_wp2_with fail
          go_roundw
          case rel =>
            refine ⟨q + 1, A9, c9, by omega, by go_num, by rw [show lq + 2 * (q + 1) = lr + 2 by have := HLR.out; omega], Q9.out, s9, P9.out, ?_⟩
            rw [show lq + 2 * (q + 1) = lr + 2 by have := HLR.out; omega, HNX.out, ← List.append_assoc, HL3.out]
            exact O9.out
          case measure => simp [intOf]; omega
        · obtain rfl : q = m := by omega
          have hfl : L2 ++ padsTo PL q = C.body := by
            unfold padsTo Cfg.body bodyB
            rw [List.take_of_length_le (by rw [HM.out]; exact Nat.le_refl _), ← HL2.out, ← HL0.out, ← HHB.out, ← HPL.out]
          have hby : C.bytes = C.body ++ four (sumB C.body) := rfl
          have hlt4 : ∀ x ∈ C.body, x < 256 := by
            have hh := HH.out.1
            unfold okA at hh
            intro x hx
            exact putB_lt (W := C.W) (H := C.H) (T := C.T) (by omega) C.tiles C.on C.ins C.outs x (by unfold putB; exact List.mem_append.2 (.inl hx))
          rw [hfl] at O7
          have HBY := Lib.hid hby
          have H4 := Lib.hid hlt4
          clear hfl hby hlt4
          generalize C.body = BD at O7 HBY H4
          obtain ⟨lr, hlr⟩ : ∃ lr, lq + 2 * q = lr := ⟨_, rfl⟩
          have HLR := Lib.hid hlr
          have hlr2 : lr ≤ 40000 := by omega
          rw [hlr] at O7 ⊢
          clear hlr
          have hbl : BD.length = lr := by have := O7.out.1; rw [bys_length] at this; omega
          have HBL := Lib.hid hbl
          clear hbl
          go_wp2_with fail
          refine (rtail_any _ _ _ _ BD (Rd.of_own O7.out) H4.out (by omega)).mono ?_
          rintro e w8 ⟨A8, c8, rfl, hb8, ho8⟩
          have O8 := Lib.hid (own_keep O7.out hb8)
          have R8 : Hid (Rd w8 1 A8 4 c8 (bys (four (sumB BD)))) := Lib.hid (Rd.of_own ho8)
          have Q8 := Lib.hid (below_then Q7.out hb8)
          have s8 : w.heap.size + 1 ≤ w8.heap.size := by have := hb8.size; omega
          clear hb8 ho8
          generalize four (sumB BD) = F4 at R8 HBY ⊢
          have hf4 : F4.length = 4 := by have := R8.out.len; rw [bys_length] at this; omega
          rw [hf4]
          have HF4 := Lib.hid hf4
          clear hf4
          go_wp2_with (at_builtin; refine wpList_app_bys rfl (.tmp 61) (.tmp 63) rfl (w.heap.size + 1) A7 lr c7 BD rfl O8.out A8 4 c8 F4 rfl R8.out (by omega) s8 ?_)
          intro A9 c9 w9 hown9 hg9
          have b9 : Below (w.heap.size + 1) w8 w9 := (Below.refl _ _).grown hg9 s8 (fun j hj => own_base O8.out hj)
          have Q9 := Lib.hid (Q8.out.trans (b9.mono (by omega)))
          have hlen : C.bytes.length = lr + 4 := by rw [HBY.out, List.length_append, HBL.out, HF4.out]
          have hend : BytesOut C w (.returned (.tuple #[.slice A9 (lr + 4) c9, .int .i64 0])) w9 := by
            refine ⟨A9, c9, by rw [hlen], Q9.out, ?_⟩
            rw [hlen, HBY.out]
            exact own_down hown9 (by omega)
          rw [HR.out] at hend
          have HEND := Lib.hid hend
          clear hown9 hg9 b9 hlen hend
          go_wp2_with fail
          exact HEND.out
end Go.Proofs.Ytoloaecbfglaeaa
