/- The law BitfileOnly. -/
import Derived.Test.YtoloaecbfglaeaaFrame
import Derived.Test.YtoloaecbfglaeaaOpenB
import Derived.Test.YtoloaecbfglaeaaLWhat
import Derived.Test.YtoloaecbfglaeaaOpen
namespace Go.Proofs.Ytoloaecbfglaeaa
open Go.ChangeShapes Go.WideShapes Go.ChangeAt Go.RowKit Go.Joins
set_option linter.unusedVariables false
set_option linter.unusedSimpArgs false

set_option maxRecDepth 100000 in
set_option maxHeartbeats 4000000 in
theorem bitfileOnly_b (A : Option Addr) (c : Nat) (l : List Nat) (w : World) (g0 : 5000 < (l.length : Int)) :
    Calls Try.prog 6 #[.slice A l.length c] w fun e w' => e = .returned (.bool true) ∧ Below w.heap.size w w' := by
  go_enter Try.func6, Try.ntmps6
  go_wp2_with fail
  refine (live31_any _).mono ?_
  rintro e w1 ⟨rfl, hb1⟩
  have T1 := Lib.hid hb1
  clear hb1
  go_wp2_with fail
  go_ret
  exact ⟨rfl, T1.out⟩

set_option maxRecDepth 100000 in
set_option maxHeartbeats 4000000 in
theorem bitfileOnly_c1 (a : Addr) (c : Nat) (l : List Nat) (w : World) (hr : Rd w 1 (some a) l.length c (bys l)) (hl : ∀ x ∈ l, x < 256) (hc : c ≤ maxLen) (g0 : ¬ 5000 < (l.length : Int)) (g1 : 6 < (l.length : Int)) (x4 : 6 < ((l.getD 4 0 : Nat) : Int)) :
    Calls Try.prog 6 #[.slice (some a) l.length c] w fun e w' => e = .returned (.bool true) ∧ Below w.heap.size w w' := by
  go_enter Try.func6, Try.ntmps6
  go_wp2_with fail
  refine (live31_any _).mono ?_
  rintro e w1 ⟨rfl, hb1⟩
  have T1 := Lib.hid hb1
  clear hb1
  have HR2 := Lib.hid (hr.later T1.out)
  have c4 := rd_byte HR2.out (k := 4) (by omega)
  have c5 := rd_byte HR2.out (k := 5) (by omega)
  have c6 := rd_byte HR2.out (k := 6) (by omega)
  rw [add_lit a (by omega)] at c4 c5 c6
  generalize l.getD 4 0 = b4 at c4 x4
  generalize l.getD 5 0 = b5 at c5
  generalize l.getD 6 0 = b6 at c6
  go_wp2_with fail
  go_ret
  exact ⟨rfl, T1.out⟩

set_option maxRecDepth 100000 in
set_option maxHeartbeats 4000000 in
theorem bitfileOnly_c2 (a : Addr) (c : Nat) (l : List Nat) (w : World) (hr : Rd w 1 (some a) l.length c (bys l)) (hl : ∀ x ∈ l, x < 256) (hc : c ≤ maxLen) (g0 : ¬ 5000 < (l.length : Int)) (g1 : 6 < (l.length : Int)) (x4 : ¬ 6 < ((l.getD 4 0 : Nat) : Int)) (x5 : 6 < ((l.getD 5 0 : Nat) : Int)) :
    Calls Try.prog 6 #[.slice (some a) l.length c] w fun e w' => e = .returned (.bool true) ∧ Below w.heap.size w w' := by
  go_enter Try.func6, Try.ntmps6
  go_wp2_with fail
  refine (live31_any _).mono ?_
  rintro e w1 ⟨rfl, hb1⟩
  have T1 := Lib.hid hb1
  clear hb1
  have HR2 := Lib.hid (hr.later T1.out)
  have c4 := rd_byte HR2.out (k := 4) (by omega)
  have c5 := rd_byte HR2.out (k := 5) (by omega)
  have c6 := rd_byte HR2.out (k := 6) (by omega)
  rw [add_lit a (by omega)] at c4 c5 c6
  generalize l.getD 4 0 = b4 at c4 x4
  generalize l.getD 5 0 = b5 at c5 x5
  generalize l.getD 6 0 = b6 at c6
  go_wp2_with fail
  go_ret
  exact ⟨rfl, T1.out⟩

set_option maxRecDepth 100000 in
set_option maxHeartbeats 4000000 in
theorem bitfileOnly_c3 (a : Addr) (c : Nat) (l : List Nat) (w : World) (hr : Rd w 1 (some a) l.length c (bys l)) (hl : ∀ x ∈ l, x < 256) (hc : c ≤ maxLen) (g0 : ¬ 5000 < (l.length : Int)) (g1 : 6 < (l.length : Int)) (x4 : ¬ 6 < ((l.getD 4 0 : Nat) : Int)) (x5 : ¬ 6 < ((l.getD 5 0 : Nat) : Int)) (x6 : 8 < ((l.getD 6 0 : Nat) : Int)) :
    Calls Try.prog 6 #[.slice (some a) l.length c] w fun e w' => e = .returned (.bool true) ∧ Below w.heap.size w w' := by
  go_enter Try.func6, Try.ntmps6
  go_wp2_with fail
  refine (live31_any _).mono ?_
  rintro e w1 ⟨rfl, hb1⟩
  have T1 := Lib.hid hb1
  clear hb1
  have HR2 := Lib.hid (hr.later T1.out)
  have c4 := rd_byte HR2.out (k := 4) (by omega)
  have c5 := rd_byte HR2.out (k := 5) (by omega)
  have c6 := rd_byte HR2.out (k := 6) (by omega)
  rw [add_lit a (by omega)] at c4 c5 c6
  generalize l.getD 4 0 = b4 at c4 x4
  generalize l.getD 5 0 = b5 at c5 x5
  generalize l.getD 6 0 = b6 at c6 x6
  go_wp2_with fail
  go_ret
  exact ⟨rfl, T1.out⟩

set_option maxRecDepth 100000 in
set_option maxHeartbeats 4000000 in
theorem bitfileOnly_d310 (A : Option Addr) (c : Nat) (l : List Nat) (w : World) (hr : Rd w 1 A l.length c (bys l)) (hl : ∀ x ∈ l, x < 256) (hc : c ≤ maxLen) (g0 : ¬ 5000 < (l.length : Int)) (g1 : ¬ 6 < (l.length : Int)) (he : getE l = 310) :
    Calls Try.prog 6 #[.slice A l.length c] w fun e w' => e = .returned (.bool true) ∧ Below w.heap.size w w' := by
  go_enter Try.func6, Try.ntmps6
  go_wp2_with fail
  refine (live31_any _).mono ?_
  rintro e w1 ⟨rfl, hb1⟩
  have T1 := Lib.hid hb1
  clear hb1
  go_wp2_with fail
  refine (bget_pair _ l.length c l _ (hr.later T1.out) hl (by omega) hc).mono ?_
  rw [he]
  rintro e w2 ⟨D, rfl, hG, hb2, hD⟩
  obtain rfl := hG.1 (by rw [he]; decide)
  simp only [noneC, List.length_nil]
  have T2 := Lib.hid (below_then T1.out hb2)
  clear hb2 hG hD
  go_wp2_with fail
  go_ret
  exact ⟨rfl, T2.out.trans ((below_new _ _).mono T2.out.size)⟩

set_option maxRecDepth 100000 in
set_option maxHeartbeats 4000000 in
theorem bitfileOnly_d311 (A : Option Addr) (c : Nat) (l : List Nat) (w : World) (hr : Rd w 1 A l.length c (bys l)) (hl : ∀ x ∈ l, x < 256) (hc : c ≤ maxLen) (g0 : ¬ 5000 < (l.length : Int)) (g1 : ¬ 6 < (l.length : Int)) (he : getE l = 311) :
    Calls Try.prog 6 #[.slice A l.length c] w fun e w' => e = .returned (.bool true) ∧ Below w.heap.size w w' := by
  go_enter Try.func6, Try.ntmps6
  go_wp2_with fail
  refine (live31_any _).mono ?_
  rintro e w1 ⟨rfl, hb1⟩
  have T1 := Lib.hid hb1
  clear hb1
  go_wp2_with fail
  refine (bget_pair _ l.length c l _ (hr.later T1.out) hl (by omega) hc).mono ?_
  rw [he]
  rintro e w2 ⟨D, rfl, hG, hb2, hD⟩
  obtain rfl := hG.1 (by rw [he]; decide)
  simp only [noneC, List.length_nil]
  have T2 := Lib.hid (below_then T1.out hb2)
  clear hb2 hG hD
  go_wp2_with fail
  go_ret
  exact ⟨rfl, T2.out.trans ((below_new _ _).mono T2.out.size)⟩

set_option maxRecDepth 100000 in
set_option maxHeartbeats 4000000 in
theorem bitfileOnly_e310 (a : Addr) (c : Nat) (l : List Nat) (w : World) (hr : Rd w 1 (some a) l.length c (bys l)) (hl : ∀ x ∈ l, x < 256) (hc : c ≤ maxLen) (g0 : ¬ 5000 < (l.length : Int)) (g1 : 6 < (l.length : Int)) (x4 : ¬ 6 < ((l.getD 4 0 : Nat) : Int)) (x5 : ¬ 6 < ((l.getD 5 0 : Nat) : Int)) (x6 : ¬ 8 < ((l.getD 6 0 : Nat) : Int)) (he : getE l = 310) :
    Calls Try.prog 6 #[.slice (some a) l.length c] w fun e w' => e = .returned (.bool true) ∧ Below w.heap.size w w' := by
  go_enter Try.func6, Try.ntmps6
  go_wp2_with fail
  refine (live31_any _).mono ?_
  rintro e w1 ⟨rfl, hb1⟩
  have T1 := Lib.hid hb1
  clear hb1
  have HR2 := Lib.hid (hr.later T1.out)
  have c4 := rd_byte HR2.out (k := 4) (by omega)
  have c5 := rd_byte HR2.out (k := 5) (by omega)
  have c6 := rd_byte HR2.out (k := 6) (by omega)
  rw [add_lit a (by omega)] at c4 c5 c6
  generalize l.getD 4 0 = b4 at c4 x4
  generalize l.getD 5 0 = b5 at c5 x5
  generalize l.getD 6 0 = b6 at c6 x6
  go_wp2_with fail
  clear c4 c5 c6 HR2 x4 x5 x6
  refine (bget_pair _ l.length c l _ (hr.later T1.out) hl (by omega) hc).mono ?_
  rw [he]
  rintro e w2 ⟨D, rfl, hG, hb2, hD⟩
  obtain rfl := hG.1 (by rw [he]; decide)
  simp only [noneC, List.length_nil]
  have T2 := Lib.hid (below_then T1.out hb2)
  clear hb2 hG hD
  go_wp2_with fail
  go_ret
  exact ⟨rfl, T2.out.trans ((below_new _ _).mono T2.out.size)⟩

set_option maxRecDepth 100000 in
set_option maxHeartbeats 4000000 in
theorem bitfileOnly_e311 (a : Addr) (c : Nat) (l : List Nat) (w : World) (hr : Rd w 1 (some a) l.length c (bys l)) (hl : ∀ x ∈ l, x < 256) (hc : c ≤ maxLen) (g0 : ¬ 5000 < (l.length : Int)) (g1 : 6 < (l.length : Int)) (x4 : ¬ 6 < ((l.getD 4 0 : Nat) : Int)) (x5 : ¬ 6 < ((l.getD 5 0 : Nat) : Int)) (x6 : ¬ 8 < ((l.getD 6 0 : Nat) : Int)) (he : getE l = 311) :
    Calls Try.prog 6 #[.slice (some a) l.length c] w fun e w' => e = .returned (.bool true) ∧ Below w.heap.size w w' := by
  go_enter Try.func6, Try.ntmps6
  go_wp2_with fail
  refine (live31_any _).mono ?_
  rintro e w1 ⟨rfl, hb1⟩
  have T1 := Lib.hid hb1
  clear hb1
  have HR2 := Lib.hid (hr.later T1.out)
  have c4 := rd_byte HR2.out (k := 4) (by omega)
  have c5 := rd_byte HR2.out (k := 5) (by omega)
  have c6 := rd_byte HR2.out (k := 6) (by omega)
  rw [add_lit a (by omega)] at c4 c5 c6
  generalize l.getD 4 0 = b4 at c4 x4
  generalize l.getD 5 0 = b5 at c5 x5
  generalize l.getD 6 0 = b6 at c6 x6
  go_wp2_with fail
  clear c4 c5 c6 HR2 x4 x5 x6
  refine (bget_pair _ l.length c l _ (hr.later T1.out) hl (by omega) hc).mono ?_
  rw [he]
  rintro e w2 ⟨D, rfl, hG, hb2, hD⟩
  obtain rfl := hG.1 (by rw [he]; decide)
  simp only [noneC, List.length_nil]
  have T2 := Lib.hid (below_then T1.out hb2)
  clear hb2 hG hD
  go_wp2_with fail
  go_ret
  exact ⟨rfl, T2.out.trans ((below_new _ _).mono T2.out.size)⟩

set_option maxRecDepth 100000 in
set_option maxHeartbeats 4000000 in
theorem bitfileOnly_e0 (a : Addr) (c : Nat) (l : List Nat) (w : World) (hr : Rd w 1 (some a) l.length c (bys l)) (hl : ∀ x ∈ l, x < 256) (hc : c ≤ maxLen) (g0 : ¬ 5000 < (l.length : Int)) (g1 : 6 < (l.length : Int)) (x4 : ¬ 6 < ((l.getD 4 0 : Nat) : Int)) (x5 : ¬ 6 < ((l.getD 5 0 : Nat) : Int)) (x6 : ¬ 8 < ((l.getD 6 0 : Nat) : Int)) (he : getE l = 0) :
    Calls Try.prog 6 #[.slice (some a) l.length c] w fun e w' => e = .returned (.bool true) ∧ Below w.heap.size w w' := by
  go_enter Try.func6, Try.ntmps6
  go_wp2_with fail
  refine (live31_any _).mono ?_
  rintro e w1 ⟨rfl, hb1⟩
  have T1 := Lib.hid hb1
  clear hb1
  have HR2 := Lib.hid (hr.later T1.out)
  have c4 := rd_byte HR2.out (k := 4) (by omega)
  have c5 := rd_byte HR2.out (k := 5) (by omega)
  have c6 := rd_byte HR2.out (k := 6) (by omega)
  rw [add_lit a (by omega)] at c4 c5 c6
  generalize l.getD 4 0 = b4 at c4 x4
  generalize l.getD 5 0 = b5 at c5 x5
  generalize l.getD 6 0 = b6 at c6 x6
  go_wp2_with fail
  clear c4 c5 c6 HR2 x4 x5 x6
  refine (bget_pair _ l.length c l _ (hr.later T1.out) hl (by omega) hc).mono ?_
  rw [he]
  rintro e w2 ⟨D, rfl, hG, hb2, hD⟩
  have hT := hG.2 he
  obtain ⟨hok, hby⟩ := get_only hl he hT
  have hfew := got_few hG (by omega)
  have hp := fun (W : World) (hB : Below w2.heap.size w2 W) => bput_pair D W (hD.later hB) hfew
  have hk := fun (W : World) (hB : Below w2.heap.size w2 W) => bcheck_any D W (hD.later hB) hfew
  rw [show pB D = l from (by unfold pB; rw [if_pos hok, hby]), show pE D = 0 from if_pos hok] at hp
  rw [show D.E = 0 from if_pos hok] at hk
  simp only [BPUT] at hp
  simp only [BCH] at hk
  have HP := Lib.hid hp
  have HK := Lib.hid hk
  have HR := Lib.hid hr
  have HL := Lib.hid hl
  have T2 := Lib.hid (below_then T1.out hb2)
  have U2 := Lib.hid (OneB.new w2 D)
  clear hb2 hG hD hp hk hr hl hT hok hby hfew
  go_wp2_with fail
  refine (HP.out _ U2.out.below).mono ?_
  rintro e w3 ⟨A3, c3, rfl, hb3, R3, hc3⟩
  have U3 := Lib.hid (U2.out.keep hb3)
  have R3 := Lib.hid R3
  clear hb3
  obtain ⟨k0, k1, k2, k3, k4, k5, k6⟩ := U3.out.cells
  go_wp2_with fail
  refine (HK.out _ U3.out.below).mono ?_
  rintro e w4 ⟨rfl, hb4⟩
  have U4 := Lib.hid (U3.out.keep hb4)
  have R4 := Lib.hid (R3.out.later hb4)
  have T4 := Lib.hid (below_then T2.out U4.out.below)
  have R5 := Lib.hid (HR.out.later T4.out)
  clear hb4
  have hcv3 := conv_bytes R4.out
  have hcv4 := conv_bytes R5.out
  generalize strB l = sB at hcv3 hcv4
  have hss : (sB.toList == sB.toList) = true := by simp
  go_wp2_with fail
  go_ret
  exact ⟨rfl, T4.out⟩

theorem bitfileOnly_walk (A : Option Addr) (c : Nat) (l : List Nat) (w : World) (hr : Rd w 1 A l.length c (bys l)) (hl : ∀ x ∈ l, x < 256) (hc : c ≤ maxLen) :
    Calls Try.prog 6 #[.slice A l.length c] w fun e w' => e = .returned (.bool true) ∧ Below w.heap.size w w' := by
  by_cases g0 : 5000 < (l.length : Int)
  · exact bitfileOnly_b A c l w g0
  by_cases g1 : 6 < (l.length : Int)
  case neg =>
    rcases getE_cases l with he | he | he
    · have := (getE_zero he).1; omega
    · exact bitfileOnly_d310 A c l w hr hl hc g0 g1 he
    · exact bitfileOnly_d311 A c l w hr hl hc g0 g1 he
  obtain ⟨a, rfl, -, -⟩ := hr.byte (k := 0) (by omega)
  by_cases x4 : 6 < ((l.getD 4 0 : Nat) : Int)
  · exact bitfileOnly_c1 a c l w hr hl hc g0 g1 x4
  by_cases x5 : 6 < ((l.getD 5 0 : Nat) : Int)
  · exact bitfileOnly_c2 a c l w hr hl hc g0 g1 x4 x5
  by_cases x6 : 8 < ((l.getD 6 0 : Nat) : Int)
  · exact bitfileOnly_c3 a c l w hr hl hc g0 g1 x4 x5 x6
  rcases getE_cases l with he | he | he
  · exact bitfileOnly_e0 a c l w hr hl hc g0 g1 x4 x5 x6 he
  · exact bitfileOnly_e310 a c l w hr hl hc g0 g1 x4 x5 x6 he
  · exact bitfileOnly_e311 a c l w hr hl hc g0 g1 x4 x5 x6 he
set_option maxRecDepth 100000 in
theorem bitfileOnly_lifted (os : Os) (started : os.Started) (H : Type) (enc : TypeId × Value → H) :
    ReturnsInHanded {} Try.checked os 6 .any (Rows.bitfileOnlySpec.pre6 enc Try.prog Try.f6 Rows.bitfileOnlyRow.domain false) (Rows.bitfileOnlySpec.post enc Try.prog Try.f6 false true false false) := by
  have hr : ∀ t ∈ Try.f6.params.toList, Try.prog.readableRec t = true ∧ t < Try.prog.types.size := by
    have h : Try.f6.params.toList.all (fun t => Try.prog.readableRec t && decide (t < Try.prog.types.size)) = true := by kernel_rfl
    intro t ht
    simpa using List.all_eq_true.1 h t ht
  refine returnsInHanded_of_change (C := Try.checked) own started (by kernel_rfl) Try.func6
    (ChangeSpec.witness6 (enc := enc) (C := Try.checked) false ⟨#[], #[.slice none 0 0], []⟩ 8 (by kernel_rfl) (by kernel_rfl) (by kernel_rfl) (by kernel_rfl)) ?_
  intro W base args ds gs before hval0 hW hcnd _
  have hval : ∀ (j : Nat) t v, Try.f6.params[j]? = some t → args[j]? = some v → Value.okWide Try.prog W .any base t v := hval0
  have hW' := hW
  obtain ⟨p, q, hA0, hV, rfl, hfz, hnd⟩ := hW
  have hA1 : DataW.TrodAll enc Try.prog W 0 (fun _ => true) true Try.f6.params.toList args.toList ds p := hA0
  have hA := hA1
  rw [Try.params6] at hA hval
  obtain ⟨v0, vs0, d0, ds0, p0, q0, hargs, rfl, rfl, h0, r0⟩ := trodAll_cons hA
  obtain ⟨rfl, rfl, rfl⟩ := trodAll_nil r0
  obtain rfl : args = #[v0] := by cases args; simp_all
  obtain ⟨rfl, rfl⟩ := trodVars_none hV
  obtain ⟨A0, c0, l0, rfl, hr0, hl0, hc0⟩ := open_bytesB (hval 0 34 v0 rfl rfl) h0
  clear hA0 hval0
  simp only [List.append_nil] at hW'
  simp only [List.append_nil] at hA1
  refine (bitfileOnly_walk A0 c0 l0 W hr0 hl0 hc0).mono fun e W' ⟨he, hb⟩ => ?_
  subst he
  exact ⟨_, rfl, law_post laidOut hr rfl hW' hA1 rfl rfl Try.underlying4 hb⟩

theorem bitfileOnly_over : Rows.bitfileOnlyRow.holds Try.pinned (OpenSpec.ofChange Rows.bitfileOnlySpec) :=
  OpenClaim.holds_of_wide 6 Try.f6 rfl rfl rfl rfl rfl rfl rfl ⟨rfl, rfl, rfl, rfl, rfl⟩ rfl rfl rfl rfl rfl (by kernel_rfl) Try.func6 (by kernel_rfl)
    (of_decide_eq_true (by kernel_rfl)) (by unfold Func.isWrapper; first | (rw [if_pos (by decide +kernel)]; kernel_rfl) | (rw [if_neg (by decide +kernel)]; exact ⟨rfl, rfl⟩))
    (fun os started H enc _ => bitfileOnly_lifted os started H enc)

theorem bitfileOnly_holds : Rows.BitfileOnlySaid := bitfileOnly_over
#print axioms bitfileOnly_holds
end Go.Proofs.Ytoloaecbfglaeaa
