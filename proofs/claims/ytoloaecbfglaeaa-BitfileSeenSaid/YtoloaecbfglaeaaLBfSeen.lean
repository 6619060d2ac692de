/- The law BitfileSeen. -/
import Derived.Test.YtoloaecbfglaeaaFrame
import Derived.Test.YtoloaecbfglaeaaOpenB
import Derived.Test.YtoloaecbfglaeaaLWhat
import Derived.Test.YtoloaecbfglaeaaOpen
namespace Go.Proofs.Ytoloaecbfglaeaa
open Go.ChangeShapes Go.WideShapes Go.ChangeAt Go.RowKit Go.Joins
set_option linter.unusedVariables false
set_option linter.unusedSimpArgs false

theorem own_head {w : World} {base : Nat} {e : TypeId} {size n c : Nat} {A : Option Addr} {xs : List Value} (h : w.ownsRow base e size (.slice A n c) n xs) (hn : 0 < n) : ∃ g, A = some ⟨g, 0, none⟩ ∧ base ≤ g ∧ g < w.heap.size := by
  rcases h.2 with ⟨hv, h0⟩ | ⟨g, cap, cur, hv, hg, hh, -⟩
  · omega
  · injection hv with h1
    exact ⟨g, h1, hg, lt_of_block hh⟩
theorem bys_set (l : List Nat) (k b : Nat) : (bys l).set k (.int .u8 (b : Int)) = bys (l.set k b) := by unfold bys; rw [List.map_set]
theorem xor8 (x y : Nat) (hx : x < 256) (hy : y < 256) : bits .xor .u8 (x : Int) (y : Int) = ((x ^^^ y : Nat) : Int) := u8_xor_nat x y hx hy

set_option maxRecDepth 100000 in
set_option maxHeartbeats 4000000 in
theorem bitfileSeen_a (C : Cfg) (at1 : Int) (by1 : Nat) (w : World) (hs : ¬ few31 C) :
    Calls Try.prog 7 #[.agg #[.int .i64 C.W, .int .i64 C.H, .int .i64 C.T, .slice C.AT C.tiles.length C.cT, .slice C.AO C.on.length C.cO, .slice C.AI C.ins.length C.cI, .slice C.AU C.outs.length C.cU], .int .i64 at1, .int .u8 (by1 : Int)] w fun e w' => e = .returned (.bool true) ∧ Below w.heap.size w w' := by
  have T0 := Lib.hid (OneB.new w C)
  go_enter Try.func7, Try.ntmps7
  go_wp2_with fail
  refine (live31_any _).mono ?_
  rintro e w1 ⟨rfl, hb1⟩
  have T1 := Lib.hid (T0.out.keep hb1)
  clear hb1 T0
  obtain ⟨k0, k1, k2, k3, k4, k5, k6⟩ := T1.out.cells
  go_wp2_with fail
  refine (few31_no _ _ hs).mono ?_
  rintro e w2 ⟨rfl, hb2⟩
  have T2 := Lib.hid (T1.out.keep hb2)
  clear hb2
  go_wp2_with fail
  go_ret
  exact ⟨rfl, T2.out.below⟩

set_option maxRecDepth 100000 in
set_option maxHeartbeats 4000000 in
theorem bitfileSeen_0 (C : Cfg) (at1 : Int) (w : World) (hs : few31 C) :
    Calls Try.prog 7 #[.agg #[.int .i64 C.W, .int .i64 C.H, .int .i64 C.T, .slice C.AT C.tiles.length C.cT, .slice C.AO C.on.length C.cO, .slice C.AI C.ins.length C.cI, .slice C.AU C.outs.length C.cU], .int .i64 at1, .int .u8 0] w fun e w' => e = .returned (.bool true) ∧ Below w.heap.size w w' := by
  have T0 := Lib.hid (OneB.new w C)
  go_enter Try.func7, Try.ntmps7
  go_wp2_with fail
  refine (live31_any _).mono ?_
  rintro e w1 ⟨rfl, hb1⟩
  have T1 := Lib.hid (T0.out.keep hb1)
  clear hb1 T0
  obtain ⟨k0, k1, k2, k3, k4, k5, k6⟩ := T1.out.cells
  go_wp2_with fail
  refine (few31_yes _ _ hs).mono ?_
  rintro e w2 ⟨rfl, hb2⟩
  have T2 := Lib.hid (T1.out.keep hb2)
  clear hb2 T1 k0 k1 k2 k3 k4 k5 k6
  obtain ⟨k0, k1, k2, k3, k4, k5, k6⟩ := T2.out.cells
  go_wp2_with fail
  go_ret
  exact ⟨rfl, T2.out.below⟩

set_option maxRecDepth 100000 in
set_option maxHeartbeats 4000000 in
theorem bitfileSeen_b (C : Cfg) (at1 : Int) (by1 : Nat) (w : World) (hC : C.In w) (hs : few31 C) (hok : ¬ C.ok) (hn : by1 ≠ 0) :
    Calls Try.prog 7 #[.agg #[.int .i64 C.W, .int .i64 C.H, .int .i64 C.T, .slice C.AT C.tiles.length C.cT, .slice C.AO C.on.length C.cO, .slice C.AI C.ins.length C.cI, .slice C.AU C.outs.length C.cU], .int .i64 at1, .int .u8 (by1 : Int)] w fun e w' => e = .returned (.bool true) ∧ Below w.heap.size w w' := by
  have fC := few31_few hs
  have hp := fun (W : World) (hB : Below w.heap.size w W) => bput_pair C W (hC.later hB) fC
  rw [show pB C = [] from if_neg hok, show pE C = 1 from if_neg hok] at hp
  simp only [BPUT] at hp
  have HP := Lib.hid hp
  have hk := fun (W : World) (hB : Below w.heap.size w W) => bcheck_any C W (hC.later hB) fC
  rw [show C.E = 1 from if_neg hok] at hk
  simp only [BCH] at hk
  have HK := Lib.hid hk
  clear hp hk
  have hb0 : ((by1 : Int) == 0) = false := by simp; omega
  clear hC fC hok HK hn
  have T0 := Lib.hid (OneB.new w C)
  go_enter Try.func7, Try.ntmps7
  go_wp2_with fail
  refine (live31_any _).mono ?_
  rintro e w1 ⟨rfl, hb1⟩
  have T1 := Lib.hid (T0.out.keep hb1)
  clear hb1 T0
  obtain ⟨k0, k1, k2, k3, k4, k5, k6⟩ := T1.out.cells
  go_wp2_with fail
  refine (few31_yes _ _ hs).mono ?_
  rintro e w2 ⟨rfl, hb2⟩
  have T2 := Lib.hid (T1.out.keep hb2)
  clear hb2 T1 k0 k1 k2 k3 k4 k5 k6
  obtain ⟨k0, k1, k2, k3, k4, k5, k6⟩ := T2.out.cells
  go_wp2_with fail
  refine (HP.out _ T2.out.below).mono ?_
  rintro e w3 ⟨A3, c3, rfl, hb3, R3, hc3⟩
  have T3 := Lib.hid (T2.out.keep hb3)
  have R3 := Lib.hid R3
  clear hb3 T2 k0 k1 k2 k3 k4 k5 k6
  have hlz : ([] : List Nat).length = 0 := rfl
  go_wp2_with fail
  go_ret
  exact ⟨rfl, T3.out.below⟩

set_option maxRecDepth 100000 in
set_option maxHeartbeats 4000000 in
theorem bitfileSeen_c (C : Cfg) (at1 : Int) (by1 : Nat) (w : World) (hC : C.In w) (hs : few31 C) (hok : C.ok) (hy : by1 < 256) (hn : by1 ≠ 0) :
    Calls Try.prog 7 #[.agg #[.int .i64 C.W, .int .i64 C.H, .int .i64 C.T, .slice C.AT C.tiles.length C.cT, .slice C.AO C.on.length C.cO, .slice C.AI C.ins.length C.cI, .slice C.AU C.outs.length C.cU], .int .i64 at1, .int .u8 (by1 : Int)] w fun e w' => e = .returned (.bool true) ∧ Below w.heap.size w w' := by
  have fC := few31_few hs
  have hp := fun (W : World) (hB : Below w.heap.size w W) => bput_pair C W (hC.later hB) fC
  rw [show pB C = C.bytes from if_pos hok, show pE C = 0 from if_pos hok] at hp
  simp only [BPUT] at hp
  have HP := Lib.hid hp
  have hk := fun (W : World) (hB : Below w.heap.size w W) => bcheck_any C W (hC.later hB) fC
  rw [show C.E = 0 from if_pos hok] at hk
  simp only [BCH] at hk
  have HK := Lib.hid hk
  clear hp hk
  have hb0 : ((by1 : Int) == 0) = false := by simp; omega
  have s1 : C.ins.length < 65536 := by unfold few31 at hs; omega
  have s2 : C.outs.length < 65536 := by unfold few31 at hs; omega
  have h15 : 15 ≤ C.bytes.length := (bytes_dec hok s1 s2).2.2.2.2.2.2.2.2.2.2.2.2.2
  have h4k := bytes_small hs
  have hlt := Lib.hid (bytes_lt hok)
  obtain ⟨m, hm, hmb⟩ := and16_i64 at1
  have hkl : m % C.bytes.length < C.bytes.length := Nat.mod_lt _ (by omega)
  have hx := getD_lt hlt.out (m % C.bytes.length)
  have hx2 : C.bytes.getD (m % C.bytes.length) 0 ^^^ by1 < 256 := Nat.xor_lt_two_pow (n := 8) hx hy
  have hsn := Lib.hid (get_seen hok s1 s2 hx2 hkl (xor_ne hn))
  have htm : ((m : Int)).tmod (C.bytes.length : Int) = ((m % C.bytes.length : Nat) : Int) := by rw [Int.tmod_eq_emod_of_nonneg (by omega)]; omega
  have hxr := xor8 _ _ hx hy
  clear hC fC hok s1 s2 HK hn
  generalize C.bytes = L at HP h15 h4k hlt hkl htm hx hx2 hsn hxr
  obtain ⟨k, hk⟩ : ∃ k, m % L.length = k := ⟨_, rfl⟩
  rw [hk] at hkl htm hx hx2 hsn hxr
  have hL0 : (L.length : Int) ≠ 0 := by omega
  clear hk
  have T0 := Lib.hid (OneB.new w C)
  go_enter Try.func7, Try.ntmps7
  go_wp2_with fail
  refine (live31_any _).mono ?_
  rintro e w1 ⟨rfl, hb1⟩
  have T1 := Lib.hid (T0.out.keep hb1)
  clear hb1 T0
  obtain ⟨k0, k1, k2, k3, k4, k5, k6⟩ := T1.out.cells
  go_wp2_with fail
  refine (few31_yes _ _ hs).mono ?_
  rintro e w2 ⟨rfl, hb2⟩
  have T2 := Lib.hid (T1.out.keep hb2)
  clear hb2 T1 k0 k1 k2 k3 k4 k5 k6
  obtain ⟨k0, k1, k2, k3, k4, k5, k6⟩ := T2.out.cells
  go_wp2_with fail
  refine (HP.out _ T2.out.below).mono ?_
  rintro e w3 ⟨A3, c3, rfl, hb3, R3, hc3⟩
  have T3 := Lib.hid (T2.out.keep hb3)
  have R3 := Lib.hid R3
  clear hb3 T2 k0 k1 k2 k3 k4 k5 k6
  obtain ⟨a3, rfl, -, -⟩ := R3.out.byte (k := 0) (by omega)
  have O5 := World.ownsRow_made (base := w3.heap.size) (e := 5) (size := 1) w3 #[] 0 (Nat.le_refl _) (Nat.zero_le _) rfl
  have O6 := Lib.hid O5
  have B6 := Lib.hid (below_new w3 (.cells #[] 5))
  have R6 := Lib.hid (R3.out.later B6.out)
  clear O5
  go_wp2_with (at_builtin; refine wpList_app_bys rfl (.tmp 39) (.tmp 40) rfl w3.heap.size (some ⟨w3.heap.size, 0, none⟩) 0 0 [] rfl O6.out (some a3) L.length c3 L rfl R6.out (by omega) (by simp) ?_)
  intro A7 c7 w7 O7 g7
  have B7 := Lib.hid (B6.out.grown g7 (by simp) (fun k hk => by have := own_base O6.out hk; simpa using this))
  obtain ⟨g, rfl, hg1, hg2⟩ := own_head O7 (by omega)
  have R7 := Lib.hid (Rd.of_own O7)
  have hc7 := R7.out.cap
  have hm7 := own_cap O7
  have hfz := O7.frozenAt k
  have hcl := rd_byte R7.out hkl
  rw [show (Addr.add ⟨g, 0, none⟩ k) = ⟨g, k, none⟩ by rw [Addr.add_lit]; simp] at hcl
  generalize L.getD k 0 = xk at hxr hx hx2 hcl hsn
  generalize xk ^^^ by1 = xb at hxr hx2 hsn
  have S8 := O7.stored k (.int .u8 (xb : Int))
  rw [bys_set] at S8
  have R8 := Lib.hid (Rd.of_own S8.1)
  have B8 := Lib.hid (B7.out.setCell (p := ⟨g, k, none⟩) hg1 (.int .u8 (xb : Int)))
  have T8 := Lib.hid (T3.out.keep B8.out)
  have hl8 : ∀ x ∈ L.set k xb, x < 256 := fun x hx => by rcases List.mem_or_eq_of_mem_set hx with h | h; exact hlt.out x h; omega
  have HL8 := Lib.hid hl8
  have hcase : ((k : Int) < 4) ∨ (¬ (k : Int) < 4 ∧ ¬ (k : Int) < 7) ∨ ((¬ (k : Int) < 4 ∧ (k : Int) < 7) ∧ 16 < (xb : Int)) ∨ ((¬ (k : Int) < 4 ∧ (k : Int) < 7) ∧ ¬ 16 < (xb : Int)) := by omega
  clear O7 g7 O6 B6 R6 S8 hl8 R3 B7 B8 T3 hs hy
  rcases hcase with q1 | ⟨q1, q2⟩ | ⟨⟨q1, q2⟩, q3⟩ | ⟨⟨q1, q2⟩, q3⟩
  case inr.inr.inl =>
    go_wp2_with fail
    go_ret
    exact ⟨rfl, T8.out.below⟩
  all_goals
    go_wp2_with fail
    rcases hsn.out with he | ⟨h11, he⟩
    all_goals
      refine (bget_pair _ L.length c7 (L.set k xb) _ R8.out HL8.out (by omega) hm7).mono ?_
      rw [he]
      rintro e w9 ⟨D3, rfl, hG, hb9, hD3⟩
      obtain rfl := hG.1 (by rw [he]; decide)
      simp only [noneC, List.length_nil]
      have T9 := Lib.hid (T8.out.keep (below_then hb9 (below_new w9 (Obj.cells #[.int .i64 0, .int .i64 0, .int .i64 0, .slice none 0 0, .slice none 0 0, .slice none 0 0, .slice none 0 0] 28))))
      clear hb9 hG hD3 T8 R8 he
      go_wp2_with fail
      go_ret
      exact ⟨rfl, T9.out.below⟩

theorem bitfileSeen_walk (C : Cfg) (at1 : Int) (by1 : Nat) (w : World) (hC : C.In w) (hwf : C.wf) (hy : by1 < 256) :
    Calls Try.prog 7 #[.agg #[.int .i64 C.W, .int .i64 C.H, .int .i64 C.T, .slice C.AT C.tiles.length C.cT, .slice C.AO C.on.length C.cO, .slice C.AI C.ins.length C.cI, .slice C.AU C.outs.length C.cU], .int .i64 at1, .int .u8 (by1 : Int)] w fun e w' => e = .returned (.bool true) ∧ Below w.heap.size w w' := by
  by_cases hs : few31 C
  case neg => exact bitfileSeen_a C at1 by1 w hs
  by_cases hn : by1 = 0
  · subst hn; exact bitfileSeen_0 C at1 w hs
  by_cases hok : C.ok
  case neg => exact bitfileSeen_b C at1 by1 w hC hs hok hn
  exact bitfileSeen_c C at1 by1 w hC hs hok hy hn
set_option maxRecDepth 100000 in
theorem bitfileSeen_lifted (os : Os) (started : os.Started) (H : Type) (enc : TypeId × Value → H) :
    ReturnsInHanded {} Try.checked os 7 .any (Rows.bitfileSeenSpec.pre6 enc Try.prog Try.f7 Rows.bitfileSeenRow.domain false) (Rows.bitfileSeenSpec.post enc Try.prog Try.f7 false true false false) := by
  have hr : ∀ t ∈ Try.f7.params.toList, Try.prog.readableRec t = true ∧ t < Try.prog.types.size := by
    have h : Try.f7.params.toList.all (fun t => Try.prog.readableRec t && decide (t < Try.prog.types.size)) = true := by kernel_rfl
    intro t ht
    simpa using List.all_eq_true.1 h t ht
  refine returnsInHanded_of_change (C := Try.checked) own started (by kernel_rfl) Try.func7
    (ChangeSpec.witness6 (enc := enc) (C := Try.checked) false ⟨#[], #[.agg #[.int .i64 0, .int .i64 0, .int .i64 0, .slice none 0 0, .slice none 0 0, .slice none 0 0, .slice none 0 0], .int .i64 0, .int .u8 0], []⟩ 8 (by kernel_rfl) (by kernel_rfl) (by kernel_rfl) (by kernel_rfl)) ?_
  intro W base args ds gs before hval0 hW hcnd _
  have hval : ∀ (j : Nat) t v, Try.f7.params[j]? = some t → args[j]? = some v → Value.okWide Try.prog W .any base t v := hval0
  have hW' := hW
  obtain ⟨p, q, hA0, hV, rfl, hfz, hnd⟩ := hW
  have hA1 : DataW.TrodAll enc Try.prog W 0 (fun _ => true) true Try.f7.params.toList args.toList ds p := hA0
  have hA := hA1
  rw [Try.params7] at hA hval
  obtain ⟨v0, vs0, d0, ds0, p0, q0, hargs, rfl, rfl, h0, r0⟩ := trodAll_cons hA
  obtain ⟨v1, vs1, d1, ds1, p1, q1, rfl, rfl, rfl, h1, r1⟩ := trodAll_cons r0
  obtain ⟨v2, vs2, d2, ds2, p2, q2, rfl, rfl, rfl, h2, r2⟩ := trodAll_cons r1
  obtain ⟨rfl, rfl, rfl⟩ := trodAll_nil r2
  obtain rfl : args = #[v0, v1, v2] := by cases args; simp_all
  obtain ⟨rfl, rfl⟩ := trodVars_none hV
  obtain ⟨C0, rfl, hin0, hwf0⟩ := open_cfg (hval 0 28 v0 rfl rfl) h0
  obtain ⟨a1, rfl, rfl, rfl, w1⟩ := open_int Try.underlying3 (hval 1 3 v1 rfl rfl) h1
  obtain ⟨a2, rfl, rfl, rfl, w2⟩ := open_int Try.underlying5 (hval 2 5 v2 rfl rfl) h2
  obtain ⟨b2, rfl, hb2⟩ := byte_of w2
  clear hA0 hval0
  simp only [List.append_nil] at hW'
  simp only [List.append_nil] at hA1
  refine (bitfileSeen_walk C0 a1 b2 W hin0 hwf0 hb2).mono fun e W' ⟨he, hb⟩ => ?_
  subst he
  exact ⟨_, rfl, law_post laidOut hr rfl hW' hA1 rfl rfl Try.underlying4 hb⟩

theorem bitfileSeen_over : Rows.bitfileSeenRow.holds Try.pinned (OpenSpec.ofChange Rows.bitfileSeenSpec) :=
  OpenClaim.holds_of_wide 7 Try.f7 rfl rfl rfl rfl rfl rfl rfl ⟨rfl, rfl, rfl, rfl, rfl⟩ rfl rfl rfl rfl rfl (by kernel_rfl) Try.func7 (by kernel_rfl)
    (of_decide_eq_true (by kernel_rfl)) (by unfold Func.isWrapper; first | (rw [if_pos (by decide +kernel)]; kernel_rfl) | (rw [if_neg (by decide +kernel)]; exact ⟨rfl, rfl⟩))
    (fun os started H enc _ => bitfileSeen_lifted os started H enc)

theorem bitfileSeen_holds : Rows.BitfileSeenSaid := bitfileSeen_over
#print axioms bitfileSeen_holds
end Go.Proofs.Ytoloaecbfglaeaa
