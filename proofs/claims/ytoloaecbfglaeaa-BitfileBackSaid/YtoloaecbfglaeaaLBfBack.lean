/- The law BitfileBack. -/
import Derived.Test.YtoloaecbfglaeaaFrame
import Derived.Test.YtoloaecbfglaeaaOpenB
import Derived.Test.YtoloaecbfglaeaaLWhat
import Derived.Test.YtoloaecbfglaeaaOpen
namespace Go.Proofs.Ytoloaecbfglaeaa
open Go.ChangeShapes Go.WideShapes Go.ChangeAt Go.RowKit Go.Joins
set_option linter.unusedVariables false
set_option linter.unusedSimpArgs false

set_option maxRecDepth 100000 in
set_option maxHeartbeats 4000000 in
theorem bitfileBack_a (C : Cfg) (at1 : Int) (by1 : Nat) (w : World) (hs : ¬ few31 C) :
    Calls Try.prog 5 #[.agg #[.int .i64 C.W, .int .i64 C.H, .int .i64 C.T, .slice C.AT C.tiles.length C.cT, .slice C.AO C.on.length C.cO, .slice C.AI C.ins.length C.cI, .slice C.AU C.outs.length C.cU], .int .i64 at1, .int .u8 (by1 : Int)] w fun e w' => e = .returned (.bool true) ∧ Below w.heap.size w w' := by
  have T0 := Lib.hid (OneB.new w C)
  go_enter Try.func5, Try.ntmps5
  go_wp2_with fail
  refine (live31_any _).mono ?_
  rintro e w1 ⟨rfl, hb1⟩
  have T1 := Lib.hid (T0.out.keep hb1)
  clear hb1 T0
  obtain ⟨k0, k1, k2, k3, k4, k5, k6⟩ := T1.out.cells
  go_wp2_with fail
  refine (few31_no _ _ hs).mono ?_
  rintro e w2 ⟨rfl, hb2⟩
  have T2 := Lib.hid (T1.out.keep hb2)
  clear hb2
  go_wp2_with fail
  go_ret
  exact ⟨rfl, T2.out.below⟩

set_option maxRecDepth 100000 in
set_option maxHeartbeats 4000000 in
theorem bitfileBack_b (C : Cfg) (at1 : Int) (by1 : Nat) (w : World) (hC : C.In w) (hs : few31 C) (hok : ¬ C.ok) :
    Calls Try.prog 5 #[.agg #[.int .i64 C.W, .int .i64 C.H, .int .i64 C.T, .slice C.AT C.tiles.length C.cT, .slice C.AO C.on.length C.cO, .slice C.AI C.ins.length C.cI, .slice C.AU C.outs.length C.cU], .int .i64 at1, .int .u8 (by1 : Int)] w fun e w' => e = .returned (.bool true) ∧ Below w.heap.size w w' := by
  have fC := few31_few hs
  have hp := fun (W : World) (hB : Below w.heap.size w W) => bput_pair C W (hC.later hB) fC
  rw [show pB C = [] from if_neg hok, show pE C = 1 from if_neg hok] at hp
  simp only [BPUT] at hp
  have HP := Lib.hid hp
  have hk := fun (W : World) (hB : Below w.heap.size w W) => bcheck_any C W (hC.later hB) fC
  rw [show C.E = 1 from if_neg hok] at hk
  simp only [BCH] at hk
  have HK := Lib.hid hk
  clear hp hk
  clear hC fC hok
  have T0 := Lib.hid (OneB.new w C)
  go_enter Try.func5, Try.ntmps5
  go_wp2_with fail
  refine (live31_any _).mono ?_
  rintro e w1 ⟨rfl, hb1⟩
  have T1 := Lib.hid (T0.out.keep hb1)
  clear hb1 T0
  obtain ⟨k0, k1, k2, k3, k4, k5, k6⟩ := T1.out.cells
  go_wp2_with fail
  refine (few31_yes _ _ hs).mono ?_
  rintro e w2 ⟨rfl, hb2⟩
  have T2 := Lib.hid (T1.out.keep hb2)
  clear hb2 T1 k0 k1 k2 k3 k4 k5 k6
  obtain ⟨k0, k1, k2, k3, k4, k5, k6⟩ := T2.out.cells
  go_wp2_with fail
  refine (HP.out _ T2.out.below).mono ?_
  rintro e w3 ⟨A3, c3, rfl, hb3, R3, hc3⟩
  have T3 := Lib.hid (T2.out.keep hb3)
  have R3 := Lib.hid R3
  clear hb3 T2 k0 k1 k2 k3 k4 k5 k6
  have hlz : ([] : List Nat).length = 0 := rfl
  obtain ⟨k0, k1, k2, k3, k4, k5, k6⟩ := T3.out.cells
  go_wp2_with fail
  refine (HK.out _ T3.out.below).mono ?_
  rintro e w4 ⟨rfl, hb4⟩
  have T4 := Lib.hid (T3.out.keep hb4)
  clear hb4
  go_wp2_with fail
  go_ret
  exact ⟨rfl, T4.out.below⟩

set_option maxRecDepth 100000 in
set_option maxHeartbeats 4000000 in
theorem bitfileBack_c (C : Cfg) (at1 : Int) (by1 : Nat) (w : World) (hC : C.In w) (hs : few31 C) (hok : C.ok) (hy : by1 < 256) :
    Calls Try.prog 5 #[.agg #[.int .i64 C.W, .int .i64 C.H, .int .i64 C.T, .slice C.AT C.tiles.length C.cT, .slice C.AO C.on.length C.cO, .slice C.AI C.ins.length C.cI, .slice C.AU C.outs.length C.cU], .int .i64 at1, .int .u8 (by1 : Int)] w fun e w' => e = .returned (.bool true) ∧ Below w.heap.size w w' := by
  have fC := few31_few hs
  have hp := fun (W : World) (hB : Below w.heap.size w W) => bput_pair C W (hC.later hB) fC
  rw [show pB C = C.bytes from if_pos hok, show pE C = 0 from if_pos hok] at hp
  simp only [BPUT] at hp
  have HP := Lib.hid hp
  have hk := fun (W : World) (hB : Below w.heap.size w W) => bcheck_any C W (hC.later hB) fC
  rw [show C.E = 0 from if_pos hok] at hk
  simp only [BCH] at hk
  have HK := Lib.hid hk
  clear hp hk
  have s1 : C.ins.length < 65536 := by unfold few31 at hs; omega
  have s2 : C.outs.length < 65536 := by unfold few31 at hs; omega
  have hgp := get_put hok s1 s2
  have h15 : 15 ≤ C.bytes.length := (bytes_dec hok s1 s2).2.2.2.2.2.2.2.2.2.2.2.2.2
  have h4k := bytes_small hs
  have hlt := Lib.hid (bytes_lt hok)
  have hmore := get_more hok s1 s2 by1
  obtain ⟨m, hm, hmb⟩ := and16_i64 at1
  have hkl : m % C.bytes.length < C.bytes.length := Nat.mod_lt _ (by omega)
  have hcut := get_cut hok s1 s2 hkl
  have htm : ((m : Int)).tmod (C.bytes.length : Int) = ((m % C.bytes.length : Nat) : Int) := by rw [Int.tmod_eq_emod_of_nonneg (by omega)]; omega
  have HC := Lib.hid hC
  have FC := Lib.hid fC
  have HS := Lib.hid hs
  clear hC fC hok s1 s2
  have hG2 := Lib.hid hgp.2
  have hG1 := hgp.1
  clear hgp
  generalize hL : C.bytes = L at HP h15 h4k hlt hmore hkl hcut htm hG2 hG1
  have hL0 : (L.length : Int) ≠ 0 := by omega
  have T0 := Lib.hid (OneB.new w C)
  go_enter Try.func5, Try.ntmps5
  go_wp2_with fail
  refine (live31_any _).mono ?_
  rintro e w1 ⟨rfl, hb1⟩
  have T1 := Lib.hid (T0.out.keep hb1)
  clear hb1 T0
  obtain ⟨k0, k1, k2, k3, k4, k5, k6⟩ := T1.out.cells
  go_wp2_with fail
  refine (few31_yes _ _ hs).mono ?_
  rintro e w2 ⟨rfl, hb2⟩
  have T2 := Lib.hid (T1.out.keep hb2)
  clear hb2 T1 k0 k1 k2 k3 k4 k5 k6
  obtain ⟨k0, k1, k2, k3, k4, k5, k6⟩ := T2.out.cells
  go_wp2_with fail
  refine (HP.out _ T2.out.below).mono ?_
  rintro e w3 ⟨A3, c3, rfl, hb3, R3, hc3⟩
  have T3 := Lib.hid (T2.out.keep hb3)
  have R3 := Lib.hid R3
  clear hb3 T2 k0 k1 k2 k3 k4 k5 k6
  obtain ⟨a3, rfl, -, -⟩ := R3.out.byte (k := 0) (by omega)
  go_wp2_with fail
  refine (bget_pair _ L.length c3 L _ R3.out hlt.out (by omega) hc3).mono ?_
  rw [hG1]
  rintro e w4 ⟨D, rfl, hG, hb4, hD⟩
  have hsame := hG2.out D (hG.2 hG1)
  have hfD := got_few hG (by omega)
  have R4 := Lib.hid ((R3.out.later hb4).later (below_new w4 (.cells #[.int .i64 D.W, .int .i64 D.H, .int .i64 D.T, .slice D.AT D.tiles.length D.cT, .slice D.AO D.on.length D.cO, .slice D.AI D.ins.length D.cI, .slice D.AU D.outs.length D.cU] 28)))
  have T4 := Lib.hid ((T3.out.keep hb4).keep (below_new w4 (.cells #[.int .i64 D.W, .int .i64 D.H, .int .i64 D.T, .slice D.AT D.tiles.length D.cT, .slice D.AO D.on.length D.cO, .slice D.AI D.ins.length D.cI, .slice D.AU D.outs.length D.cU] 28)))
  have U4 := Lib.hid (OneB.new w4 D)
  have HD := Lib.hid hD
  clear hb4 hG hD R3 T3
  obtain ⟨k, hk⟩ : ∃ k, m % L.length = k := ⟨_, rfl⟩
  rw [hk] at hkl hcut htm
  have hlt2 : ∀ x ∈ L.take k, x < 256 := fun x hx => hlt.out x (List.mem_of_mem_take hx)
  have hkc : (k : Int) ≤ c3 := by have := R4.out.cap; omega
  have hKL := Lib.hid (show (L.take k).length = k by rw [List.length_take]; omega)
  have HCUT := Lib.hid hcut
  have HK' := Lib.hid hk
  have HM := Lib.hid hmore
  have hm0 : (m : Int) < 65536 := by omega
  clear hcut hk hmore HP HK
  go_wp2_with fail
  refine (bget_pair _ k c3 (L.take k) _ (rd_take R4.out (by omega)) hlt2 (by omega) hc3).mono ?_
  rw [HCUT.out]
  rintro e w5 ⟨D2, rfl, hG, hb5, hD2⟩
  obtain rfl := hG.1 (by rw [HCUT.out]; decide)
  simp only [noneC, List.length_nil]
  have R5 := Lib.hid ((R4.out.later hb5).later (below_new w5 (.cells #[.int .i64 0, .int .i64 0, .int .i64 0, .slice none 0 0, .slice none 0 0, .slice none 0 0, .slice none 0 0] 28)))
  have T5 := Lib.hid ((T4.out.keep hb5).keep (below_new w5 (.cells #[.int .i64 0, .int .i64 0, .int .i64 0, .slice none 0 0, .slice none 0 0, .slice none 0 0, .slice none 0 0] 28)))
  have U5 := Lib.hid ((U4.out.keep hb5).keep (below_new w5 (.cells #[.int .i64 0, .int .i64 0, .int .i64 0, .slice none 0 0, .slice none 0 0, .slice none 0 0, .slice none 0 0] 28)))
  clear hb5 hG hD2 R4 T4 U4 hlt2 htm hkl hkc hm0
  have O5 := World.ownsRow_made (base := w5.heap.size + 1) (e := 5) (size := 1) (w5.alloc (Obj.cells #[.int .i64 0, .int .i64 0, .int .i64 0, .slice none 0 0, .slice none 0 0, .slice none 0 0, .slice none 0 0] 28)) #[] 0 (by simp) (Nat.zero_le _) rfl
  rw [World.size_alloc] at O5
  have O6 := Lib.hid O5
  have B6 := Lib.hid (below_new (w5.alloc (Obj.cells #[.int .i64 0, .int .i64 0, .int .i64 0, .slice none 0 0, .slice none 0 0, .slice none 0 0, .slice none 0 0] 28)) (.cells #[] 5))
  have hz6 : ((w5.alloc (Obj.cells #[.int .i64 0, .int .i64 0, .int .i64 0, .slice none 0 0, .slice none 0 0, .slice none 0 0, .slice none 0 0] 28)).alloc (.cells #[] 5)).heap.size = w5.heap.size + 1 + 1 := by simp
  have hz6' := Lib.hid hz6
  have R6 := Lib.hid (R5.out.later B6.out)
  clear O5 hz6
  go_wp2_with (at_builtin; refine wpList_app_bys rfl (.tmp 60) (.tmp 61) rfl (w5.heap.size + 1) (some ⟨w5.heap.size + 1, 0, none⟩) 0 0 [] rfl O6.out (some a3) L.length c3 L rfl R6.out (by omega) (by rw [hz6'.out]; omega) ?_)
  intro A7 c7 w7 O7 g7
  have B7 := Lib.hid (B6.out.grown g7 (by rw [hz6'.out]; simp) (fun k hk => by have := own_base O6.out hk; simpa using this))
  have O7' := Lib.hid O7
  have hz7 : w5.heap.size + 1 + 1 ≤ w7.heap.size := by have := g7.size; rw [hz6'.out] at this; exact this
  clear O7 g7 O6 B6 R6 hz6'
  have V7 := Lib.hid (rd_bys1 w7 5 by1 _ rfl)
  go_wp2_with (at_builtin; refine wpList_app_bys rfl (.tmp 63) (.tmp 65) rfl (w5.heap.size + 1) A7 L.length c7 L rfl (O7'.out.alloc _) (some ⟨w7.heap.size, 0, none⟩) 1 1 [by1] rfl V7.out (by omega) (by simp; omega) ?_)
  intro A8 c8 w8 O8 g8
  have B8 := Lib.hid ((B7.out.trans ((below_new w7 (.cells #[.int .u8 (by1 : Int)] 5)).mono (by simp; omega))).grown g8 (by simp; omega) (fun k hk => by have := own_base O7'.out hk; simpa using this))
  have R8 := Lib.hid (Rd.of_own O8)
  have hc8 := own_cap O8
  have T8 := Lib.hid (T5.out.keep B8.out)
  have U8 := Lib.hid (U5.out.keep B8.out)
  have N8 := Lib.hid ((Blk.made w5 28 #[.int .i64 0, .int .i64 0, .int .i64 0, .slice none 0 0, .slice none 0 0, .slice none 0 0, .slice none 0 0]).keep B8.out)
  have hll := Lib.hid (show (L ++ [by1]).length = L.length + 1 by simp)
  have hl8 : ∀ x ∈ L ++ [by1], x < 256 := fun x hx => by rcases List.mem_append.1 hx with h | h; exact hlt.out x h; obtain rfl := List.mem_singleton.1 h; exact hy
  clear O8 g8 O7' V7 B7 T5 U5 B8 hz7
  go_wp2_with fail
  refine (bget_pair _ (L.length + 1) c8 (L ++ [by1]) _ R8.out hl8 (by omega) hc8).mono ?_
  rw [HM.out]
  rintro e w9 ⟨D3, rfl, hG, hb9, hD3⟩
  obtain rfl := hG.1 (by rw [HM.out]; decide)
  simp only [noneC, List.length_nil]
  have b9 := below_then hb9 (below_new w9 (Obj.cells #[.int .i64 0, .int .i64 0, .int .i64 0, .slice none 0 0, .slice none 0 0, .slice none 0 0, .slice none 0 0] 28))
  have T9 := Lib.hid (T8.out.keep b9)
  have U9 := Lib.hid (U8.out.keep b9)
  have N9 := Lib.hid (N8.out.keep b9)
  have n3 := N9.out.cell 3
  have I9 := Lib.hid (HC.out.later T9.out.below)
  have J9 := Lib.hid (HD.out.later U9.out.below)
  clear hb9 hG hD3 b9 T8 U8 N8 R8 hl8 hc8 hll
  obtain ⟨k0, k1, k2, k3, k4, k5, k6⟩ := T9.out.cells
  obtain ⟨j0, j1, j2, j3, j4, j5, j6⟩ := U9.out.cells
  go_wp2_with fail
  refine (rsame_any C D _ I9.out J9.out FC.out hfD true (decide_eq_true hsame)).mono ?_
  rintro e w10 ⟨rfl, hb10⟩
  have T10 := Lib.hid (T9.out.keep hb10)
  have N10 := Lib.hid (N9.out.keep hb10)
  have n3 := N10.out.cell 3
  clear hb10 T9 N9 U9 k0 k1 k2 k3 k4 k5 k6 j0 j1 j2 j3 j4 j5 j6
  go_wp2_with fail
  go_ret
  exact ⟨rfl, T10.out.below⟩

theorem bitfileBack_walk (C : Cfg) (at1 : Int) (by1 : Nat) (w : World) (hC : C.In w) (hwf : C.wf) (hy : by1 < 256) :
    Calls Try.prog 5 #[.agg #[.int .i64 C.W, .int .i64 C.H, .int .i64 C.T, .slice C.AT C.tiles.length C.cT, .slice C.AO C.on.length C.cO, .slice C.AI C.ins.length C.cI, .slice C.AU C.outs.length C.cU], .int .i64 at1, .int .u8 (by1 : Int)] w fun e w' => e = .returned (.bool true) ∧ Below w.heap.size w w' := by
  by_cases hs : few31 C
  case neg => exact bitfileBack_a C at1 by1 w hs
  by_cases hok : C.ok
  case neg => exact bitfileBack_b C at1 by1 w hC hs hok
  exact bitfileBack_c C at1 by1 w hC hs hok hy
set_option maxRecDepth 100000 in
theorem bitfileBack_lifted (os : Os) (started : os.Started) (H : Type) (enc : TypeId × Value → H) :
    ReturnsInHanded {} Try.checked os 5 .any (Rows.bitfileBackSpec.pre6 enc Try.prog Try.f5 Rows.bitfileBackRow.domain false) (Rows.bitfileBackSpec.post enc Try.prog Try.f5 false true false false) := by
  have hr : ∀ t ∈ Try.f5.params.toList, Try.prog.readableRec t = true ∧ t < Try.prog.types.size := by
    have h : Try.f5.params.toList.all (fun t => Try.prog.readableRec t && decide (t < Try.prog.types.size)) = true := by kernel_rfl
    intro t ht
    simpa using List.all_eq_true.1 h t ht
  refine returnsInHanded_of_change (C := Try.checked) own started (by kernel_rfl) Try.func5
    (ChangeSpec.witness6 (enc := enc) (C := Try.checked) false ⟨#[], #[.agg #[.int .i64 0, .int .i64 0, .int .i64 0, .slice none 0 0, .slice none 0 0, .slice none 0 0, .slice none 0 0], .int .i64 0, .int .u8 0], []⟩ 8 (by kernel_rfl) (by kernel_rfl) (by kernel_rfl) (by kernel_rfl)) ?_
  intro W base args ds gs before hval0 hW hcnd _
  have hval : ∀ (j : Nat) t v, Try.f5.params[j]? = some t → args[j]? = some v → Value.okWide Try.prog W .any base t v := hval0
  have hW' := hW
  obtain ⟨p, q, hA0, hV, rfl, hfz, hnd⟩ := hW
  have hA1 : DataW.TrodAll enc Try.prog W 0 (fun _ => true) true Try.f5.params.toList args.toList ds p := hA0
  have hA := hA1
  rw [Try.params5] at hA hval
  obtain ⟨v0, vs0, d0, ds0, p0, q0, hargs, rfl, rfl, h0, r0⟩ := trodAll_cons hA
  obtain ⟨v1, vs1, d1, ds1, p1, q1, rfl, rfl, rfl, h1, r1⟩ := trodAll_cons r0
  obtain ⟨v2, vs2, d2, ds2, p2, q2, rfl, rfl, rfl, h2, r2⟩ := trodAll_cons r1
  obtain ⟨rfl, rfl, rfl⟩ := trodAll_nil r2
  obtain rfl : args = #[v0, v1, v2] := by cases args; simp_all
  obtain ⟨rfl, rfl⟩ := trodVars_none hV
  obtain ⟨C0, rfl, hin0, hwf0⟩ := open_cfg (hval 0 28 v0 rfl rfl) h0
  obtain ⟨a1, rfl, rfl, rfl, w1⟩ := open_int Try.underlying3 (hval 1 3 v1 rfl rfl) h1
  obtain ⟨a2, rfl, rfl, rfl, w2⟩ := open_int Try.underlying5 (hval 2 5 v2 rfl rfl) h2
  obtain ⟨b2, rfl, hb2⟩ := byte_of w2
  clear hA0 hval0
  simp only [List.append_nil] at hW'
  simp only [List.append_nil] at hA1
  refine (bitfileBack_walk C0 a1 b2 W hin0 hwf0 hb2).mono fun e W' ⟨he, hb⟩ => ?_
  subst he
  exact ⟨_, rfl, law_post laidOut hr rfl hW' hA1 rfl rfl Try.underlying4 hb⟩

theorem bitfileBack_over : Rows.bitfileBackRow.holds Try.pinned (OpenSpec.ofChange Rows.bitfileBackSpec) :=
  OpenClaim.holds_of_wide 5 Try.f5 rfl rfl rfl rfl rfl rfl rfl ⟨rfl, rfl, rfl, rfl, rfl⟩ rfl rfl rfl rfl rfl (by kernel_rfl) Try.func5 (by kernel_rfl)
    (of_decide_eq_true (by kernel_rfl)) (by unfold Func.isWrapper; first | (rw [if_pos (by decide +kernel)]; kernel_rfl) | (rw [if_neg (by decide +kernel)]; exact ⟨rfl, rfl⟩))
    (fun os started H enc _ => bitfileBack_lifted os started H enc)

theorem bitfileBack_holds : Rows.BitfileBackSaid := bitfileBack_over
#print axioms bitfileBack_holds
end Go.Proofs.Ytoloaecbfglaeaa
