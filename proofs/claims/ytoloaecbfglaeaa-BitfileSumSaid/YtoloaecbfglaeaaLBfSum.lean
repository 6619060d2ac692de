/- The law BitfileSum. -/
import Derived.Test.YtoloaecbfglaeaaFrame
import Derived.Test.YtoloaecbfglaeaaOpenB
import Derived.Test.YtoloaecbfglaeaaLWhat
import Derived.Test.YtoloaecbfglaeaaOpen
namespace Go.Proofs.Ytoloaecbfglaeaa
open Go.ChangeShapes Go.WideShapes Go.ChangeAt Go.RowKit Go.Joins
set_option linter.unusedVariables false
set_option linter.unusedSimpArgs false

theorem own_head {w : World} {base : Nat} {e : TypeId} {size n c : Nat} {A : Option Addr} {xs : List Value} (h : w.ownsRow base e size (.slice A n c) n xs) (hn : 0 < n) : ∃ g, A = some ⟨g, 0, none⟩ ∧ base ≤ g ∧ g < w.heap.size := by
  rcases h.2 with ⟨hv, h0⟩ | ⟨g, cap, cur, hv, hg, hh, -⟩
  · omega
  · injection hv with h1
    exact ⟨g, h1, hg, lt_of_block hh⟩
theorem bys_set (l : List Nat) (k b : Nat) : (bys l).set k (.int .u8 (b : Int)) = bys (l.set k b) := by unfold bys; rw [List.map_set]
theorem xor8 (x y : Nat) (hx : x < 256) (hy : y < 256) : bits .xor .u8 (x : Int) (y : Int) = ((x ^^^ y : Nat) : Int) := u8_xor_nat x y hx hy

set_option maxRecDepth 100000 in
set_option maxHeartbeats 4000000 in
theorem bitfileSum_a (A : Option Addr) (c : Nat) (l : List Nat) (x y : Nat) (at1 : Int) (w : World) (g0 : 2000 < (l.length : Int)) :
    Calls Try.prog 8 #[.slice A l.length c, .int .u8 (x : Int), .int .u8 (y : Int), .int .i64 at1] w fun e w' => e = .returned (.bool true) ∧ Below w.heap.size w w' := by
  go_enter Try.func8, Try.ntmps8
  go_wp2_with fail
  refine (live31_any _).mono ?_
  rintro e w1 ⟨rfl, hb1⟩
  have T1 := Lib.hid hb1
  clear hb1
  go_wp2_with fail
  go_ret
  exact ⟨rfl, T1.out⟩

set_option maxRecDepth 100000 in
set_option maxHeartbeats 4000000 in
theorem bitfileSum_b (A : Option Addr) (c : Nat) (l : List Nat) (x y : Nat) (at1 : Int) (w : World) (hr : Rd w 1 A l.length c (bys l)) (hl : ∀ x ∈ l, x < 256) (hc : c ≤ maxLen) (hx : x < 256) (hy : y < 256) (g0 : ¬ 2000 < (l.length : Int)) :
    Calls Try.prog 8 #[.slice A l.length c, .int .u8 (x : Int), .int .u8 (y : Int), .int .i64 at1] w fun e w' => e = .returned (.bool true) ∧ Below w.heap.size w w' := by
  have h1 : ((sumB (l ++ [x]) : Int) == (sumB (l ++ [y]) : Int)) = decide (x = y) := by
    rw [Bool.eq_iff_iff]; simp only [beq_iff_eq, decide_eq_true_eq]; rw [← sum_eq (l := l) hx hy]; omega
  have h2 : ((x : Int) == (y : Int)) = decide (x = y) := by
    rw [Bool.eq_iff_iff]; simp only [beq_iff_eq, decide_eq_true_eq]; omega
  have hpl : ∀ z ∈ l ++ [x], z < 256 := fun z hz => by rcases List.mem_append.1 hz with h | h; exact hl z h; obtain rfl := List.mem_singleton.1 h; exact hx
  have hql : ∀ z ∈ l ++ [y], z < 256 := fun z hz => by rcases List.mem_append.1 hz with h | h; exact hl z h; obtain rfl := List.mem_singleton.1 h; exact hy
  obtain ⟨m, hm, hmb⟩ := and16_i64 at1
  have hkl : m % (l.length + 1) < (l ++ [x]).length := by simp; exact Nat.mod_lt _ (by omega)
  have htm : ((m : Int)).tmod ((l.length : Int) + 1) = ((m % (l.length + 1) : Nat) : Int) := by rw [Int.tmod_eq_emod_of_nonneg (by omega)]; simp
  have hxk := getD_lt hpl (m % (l.length + 1))
  have hxb : (l ++ [x]).getD (m % (l.length + 1)) 0 ^^^ y < 256 := Nat.xor_lt_two_pow (n := 8) hxk hy
  have hxr := xor8 _ _ hxk hy
  have h3 : ((sumB (l ++ [x]) : Int) == (sumB ((l ++ [x]).set (m % (l.length + 1)) ((l ++ [x]).getD (m % (l.length + 1)) 0 ^^^ y)) : Int)) = decide (y = 0) := by
    rw [Bool.eq_iff_iff]; simp only [beq_iff_eq, decide_eq_true_eq]; rw [← sum_xor hpl hkl hy]; omega
  have h4 : ((y : Int) == 0) = decide (y = 0) := by
    rw [Bool.eq_iff_iff]; simp only [beq_iff_eq, decide_eq_true_eq]; omega
  have h5 : bits .xor .u32 (sumB l : Int) (x : Int) * 16777619 % 4294967296 = (sumB (l ++ [x]) : Int) := by rw [sumB_snoc]; exact sum_step _ _ (sumB_lt l) hx
  have hrl : ∀ z ∈ (l ++ [x]).set (m % (l.length + 1)) ((l ++ [x]).getD (m % (l.length + 1)) 0 ^^^ y), z < 256 := fun z hz => by rcases List.mem_or_eq_of_mem_set hz with h | h; exact hpl z h; omega
  have hpn : (l ++ [x]).length = l.length + 1 := by simp
  have hqn : (l ++ [y]).length = l.length + 1 := by simp
  have z0 := sumB_lt l
  have z1 := sumB_lt (l ++ [x])
  have z2 := sumB_lt (l ++ [y])
  have z3 := sumB_lt ((l ++ [x]).set (m % (l.length + 1)) ((l ++ [x]).getD (m % (l.length + 1)) 0 ^^^ y))
  generalize decide (x = y) = bxy at h1 h2
  generalize decide (y = 0) = by0 at h3 h4
  obtain ⟨k, hk⟩ : ∃ k, m % (l.length + 1) = k := ⟨_, rfl⟩
  rw [hk] at hkl htm hxk hxb hxr h3 hrl z3
  clear hk
  have HGX := Lib.hid (show (l ++ [x]).getD k 0 = (l ++ [x]).getD k 0 from rfl)
  obtain ⟨P, hP⟩ : ∃ P, l ++ [x] = P := ⟨_, rfl⟩
  obtain ⟨Q, hQ⟩ : ∃ Q, l ++ [y] = Q := ⟨_, rfl⟩
  rw [hP] at h1 h3 h5 hpl hkl hxk hxb hxr hrl hpn z1 z3
  rw [hQ] at h1 hql hqn z2
  have HP := Lib.hid hP
  have HQ := Lib.hid hQ
  clear hP hQ HGX
  obtain ⟨xk, hxk0⟩ : ∃ xk, P.getD k 0 = xk := ⟨_, rfl⟩
  rw [hxk0] at hxk hxb hxr h3 hrl z3
  have HXK := Lib.hid hxk0
  clear hxk0
  generalize xk ^^^ y = xb at hxb hxr h3 hrl z3
  generalize hS0 : sumB l = S0 at h5 z0
  generalize hS1 : sumB P = S1 at h1 h3 h5 z1
  generalize hS2 : sumB Q = S2 at h1 z2
  generalize hS3 : sumB (P.set k xb) = S3 at h3 z3
  have HS0 := Lib.hid hS0
  have HS1 := Lib.hid hS1
  have HS2 := Lib.hid hS2
  have HS3 := Lib.hid hS3
  have HPN := Lib.hid hpn
  have HQN := Lib.hid hqn
  have hkn : k < l.length + 1 := by omega
  have hbb : ((S1 : Int) == (S1 : Int)) = true := by simp
  have HR := Lib.hid hr
  have HL := Lib.hid hl
  have HPL := Lib.hid hpl
  have HQL := Lib.hid hql
  have HRL := Lib.hid hrl
  clear hS0 hS1 hS2 hS3 hpn hqn hr hl hpl hql hrl hkl
  go_enter Try.func8, Try.ntmps8
  go_wp2_with fail
  refine (live31_any _).mono ?_
  rintro e w1 ⟨rfl, hb1⟩
  have T1 := Lib.hid hb1
  clear hb1
  have R1 := Lib.hid ((HR.out.later T1.out).later (below_new w1 (.cells #[] 5)))
  have O1 := Lib.hid (World.ownsRow_made (base := w1.heap.size) (e := 5) (size := 1) w1 #[] 0 (Nat.le_refl _) (Nat.zero_le _) rfl)
  go_wp2_with (at_builtin; refine wpList_app_bys rfl (.tmp 21) (.tmp 22) rfl w1.heap.size (some ⟨w1.heap.size, 0, none⟩) 0 0 [] rfl O1.out A l.length c l rfl R1.out (by omega) (by simp) ?_)
  intro A2 c2 w2 O2 g2
  have B2 := Lib.hid ((below_new w1 (.cells #[] 5)).grown g2 (by simp) (fun k hk => by have := own_base O1.out hk; simpa using this))
  have HO2 := Lib.hid O2
  have hz2 := B2.out.size
  clear O2 g2 O1 R1
  have V2 := Lib.hid (rd_bys1 w2 5 x _ rfl)
  go_wp2_with (at_builtin; refine wpList_app_bys rfl (.tmp 24) (.tmp 26) rfl w1.heap.size A2 l.length c2 l rfl (HO2.out.alloc _) (some ⟨w2.heap.size, 0, none⟩) 1 1 [x] rfl V2.out (by omega) (by simp; omega) ?_)
  intro A3 c3 w3 O3 g3
  have B3 := Lib.hid ((below_then B2.out (below_new w2 (.cells #[.int .u8 (x : Int)] 5))).grown g3 (by simp; omega) (fun k hk => by have := own_base HO2.out hk; simpa using this))
  rw [HP.out] at O3
  have RP3 := Lib.hid (Rd.of_own O3)
  have T3 := Lib.hid (below_then T1.out B3.out)
  have R3 := Lib.hid ((HR.out.later T3.out).later (below_new w3 (.cells #[] 5)))
  have O4 := Lib.hid (World.ownsRow_made (base := w3.heap.size) (e := 5) (size := 1) w3 #[] 0 (Nat.le_refl _) (Nat.zero_le _) rfl)
  clear O3 g3 HO2 B2 V2 B3 hz2
  go_wp2_with (at_builtin; refine wpList_app_bys rfl (.tmp 28) (.tmp 29) rfl w3.heap.size (some ⟨w3.heap.size, 0, none⟩) 0 0 [] rfl O4.out A l.length c l rfl R3.out (by omega) (by simp) ?_)
  intro A4 c4 w4 O5 g4
  have B4 := Lib.hid ((below_new w3 (.cells #[] 5)).grown g4 (by simp) (fun k hk => by have := own_base O4.out hk; simpa using this))
  have HO5 := Lib.hid O5
  have hz4 := B4.out.size
  clear O5 g4 O4 R3
  have V4 := Lib.hid (rd_bys1 w4 5 y _ rfl)
  go_wp2_with (at_builtin; refine wpList_app_bys rfl (.tmp 31) (.tmp 33) rfl w3.heap.size A4 l.length c4 l rfl (HO5.out.alloc _) (some ⟨w4.heap.size, 0, none⟩) 1 1 [y] rfl V4.out (by omega) (by simp; omega) ?_)
  intro A5 c5 w5 O6 g5
  have B5 := Lib.hid ((below_then B4.out (below_new w4 (.cells #[.int .u8 (y : Int)] 5))).grown g5 (by simp; omega) (fun k hk => by have := own_base HO5.out hk; simpa using this))
  rw [HQ.out] at O6
  have RQ5 := Lib.hid (Rd.of_own O6)
  have RP5 := Lib.hid (RP3.out.later B5.out)
  have RP5' := Lib.hid (RP5.out.later (below_new w5 (.cells #[] 5)))
  have T5 := Lib.hid (below_then T3.out B5.out)
  have O7 := Lib.hid (World.ownsRow_made (base := w5.heap.size) (e := 5) (size := 1) w5 #[] 0 (Nat.le_refl _) (Nat.zero_le _) rfl)
  clear O6 g5 HO5 B4 V4 B5 hz4 RP3 T3
  go_wp2_with (at_builtin; refine wpList_app_bys rfl (.tmp 40) (.tmp 41) rfl w5.heap.size (some ⟨w5.heap.size, 0, none⟩) 0 0 [] rfl O7.out A3 (l.length + 1) c3 P rfl RP5'.out (by omega) (by simp) ?_)
  intro A6 c6 w6 O8 g6
  have B6 := Lib.hid ((below_new w5 (.cells #[] 5)).grown g6 (by simp) (fun k hk => by have := own_base O7.out hk; simpa using this))
  obtain ⟨g, rfl, hg1, hg2⟩ := own_head O8 (by omega)
  have R6 := Lib.hid (Rd.of_own O8)
  have hfz := O8.frozenAt k
  have hc6 := R6.out.cap
  have hm6 := own_cap O8
  have hcl := rd_byte R6.out hkn
  rw [show (Addr.add ⟨g, 0, none⟩ k) = ⟨g, k, none⟩ by rw [Addr.add_lit]; simp, HXK.out] at hcl
  have S8 := O8.stored k (.int .u8 (xb : Int))
  rw [bys_set] at S8
  have R8 := Lib.hid (Rd.of_own S8.1)
  have B8 := Lib.hid (B6.out.setCell (p := ⟨g, k, none⟩) hg1 (.int .u8 (xb : Int)))
  have T8 := Lib.hid (below_then T5.out B8.out)
  have RP8 := Lib.hid (RP5.out.later B8.out)
  have RQ8 := Lib.hid (RQ5.out.later B8.out)
  have RL8 := Lib.hid (HR.out.later T8.out)
  clear O8 g6 S8 O7 B6 B8 T5 RP5 RQ5 RP5' R6
  go_wp2_with fail
  refine (bsum_any _ _ _ _ P RP8.out HPL.out (by omega)).mono ?_
  rw [HS1.out]
  rintro e w9 ⟨rfl, rfl⟩
  go_wp2_with fail
  refine (bsum_any _ _ _ _ l RL8.out HL.out (by omega)).mono ?_
  rw [HS0.out]
  rintro e w9 ⟨rfl, rfl⟩
  go_wp2_with fail
  refine (bsum_any _ _ _ _ P RP8.out HPL.out (by omega)).mono ?_
  rw [HS1.out]
  rintro e w9 ⟨rfl, rfl⟩
  go_wp2_with fail
  refine (bsum_any _ _ _ _ Q RQ8.out HQL.out (by omega)).mono ?_
  rw [HS2.out]
  rintro e w9 ⟨rfl, rfl⟩
  go_wp2_with fail
  refine (bsum_any _ _ _ _ P RP8.out HPL.out (by omega)).mono ?_
  rw [HS1.out]
  rintro e w9 ⟨rfl, rfl⟩
  go_wp2_with fail
  refine (bsum_any _ _ _ _ (P.set k xb) R8.out HRL.out (by omega)).mono ?_
  rw [HS3.out]
  rintro e w9 ⟨rfl, rfl⟩
  go_wp2_with fail
  go_ret
  exact ⟨rfl, T8.out⟩

theorem bitfileSum_walk (A : Option Addr) (c : Nat) (l : List Nat) (x y : Nat) (at1 : Int) (w : World) (hr : Rd w 1 A l.length c (bys l)) (hl : ∀ x ∈ l, x < 256) (hc : c ≤ maxLen) (hx : x < 256) (hy : y < 256) :
    Calls Try.prog 8 #[.slice A l.length c, .int .u8 (x : Int), .int .u8 (y : Int), .int .i64 at1] w fun e w' => e = .returned (.bool true) ∧ Below w.heap.size w w' := by
  by_cases g0 : 2000 < (l.length : Int)
  · exact bitfileSum_a A c l x y at1 w g0
  exact bitfileSum_b A c l x y at1 w hr hl hc hx hy g0
set_option maxRecDepth 100000 in
theorem bitfileSum_lifted (os : Os) (started : os.Started) (H : Type) (enc : TypeId × Value → H) :
    ReturnsInHanded {} Try.checked os 8 .any (Rows.bitfileSumSpec.pre6 enc Try.prog Try.f8 Rows.bitfileSumRow.domain false) (Rows.bitfileSumSpec.post enc Try.prog Try.f8 false true false false) := by
  have hr : ∀ t ∈ Try.f8.params.toList, Try.prog.readableRec t = true ∧ t < Try.prog.types.size := by
    have h : Try.f8.params.toList.all (fun t => Try.prog.readableRec t && decide (t < Try.prog.types.size)) = true := by kernel_rfl
    intro t ht
    simpa using List.all_eq_true.1 h t ht
  refine returnsInHanded_of_change (C := Try.checked) own started (by kernel_rfl) Try.func8
    (ChangeSpec.witness6 (enc := enc) (C := Try.checked) false ⟨#[], #[.slice none 0 0, .int .u8 0, .int .u8 0, .int .i64 0], []⟩ 8 (by kernel_rfl) (by kernel_rfl) (by kernel_rfl) (by kernel_rfl)) ?_
  intro W base args ds gs before hval0 hW hcnd _
  have hval : ∀ (j : Nat) t v, Try.f8.params[j]? = some t → args[j]? = some v → Value.okWide Try.prog W .any base t v := hval0
  have hW' := hW
  obtain ⟨p, q, hA0, hV, rfl, hfz, hnd⟩ := hW
  have hA1 : DataW.TrodAll enc Try.prog W 0 (fun _ => true) true Try.f8.params.toList args.toList ds p := hA0
  have hA := hA1
  rw [Try.params8] at hA hval
  obtain ⟨v0, vs0, d0, ds0, p0, q0, hargs, rfl, rfl, h0, r0⟩ := trodAll_cons hA
  obtain ⟨v1, vs1, d1, ds1, p1, q1, rfl, rfl, rfl, h1, r1⟩ := trodAll_cons r0
  obtain ⟨v2, vs2, d2, ds2, p2, q2, rfl, rfl, rfl, h2, r2⟩ := trodAll_cons r1
  obtain ⟨v3, vs3, d3, ds3, p3, q3, rfl, rfl, rfl, h3, r3⟩ := trodAll_cons r2
  obtain ⟨rfl, rfl, rfl⟩ := trodAll_nil r3
  obtain rfl : args = #[v0, v1, v2, v3] := by cases args; simp_all
  obtain ⟨rfl, rfl⟩ := trodVars_none hV
  obtain ⟨A0, c0, l0, rfl, hr0, hl0, hc0⟩ := open_bytesB (hval 0 34 v0 rfl rfl) h0
  obtain ⟨a1, rfl, rfl, rfl, w1⟩ := open_int Try.underlying5 (hval 1 5 v1 rfl rfl) h1
  obtain ⟨b1, rfl, hb1⟩ := byte_of w1
  obtain ⟨a2, rfl, rfl, rfl, w2⟩ := open_int Try.underlying5 (hval 2 5 v2 rfl rfl) h2
  obtain ⟨b2, rfl, hb2⟩ := byte_of w2
  obtain ⟨a3, rfl, rfl, rfl, w3⟩ := open_int Try.underlying3 (hval 3 3 v3 rfl rfl) h3
  clear hA0 hval0
  simp only [List.append_nil] at hW'
  simp only [List.append_nil] at hA1
  refine (bitfileSum_walk A0 c0 l0 b1 b2 a3 W hr0 hl0 hc0 hb1 hb2).mono fun e W' ⟨he, hb⟩ => ?_
  subst he
  exact ⟨_, rfl, law_post laidOut hr rfl hW' hA1 rfl rfl Try.underlying4 hb⟩

theorem bitfileSum_over : Rows.bitfileSumRow.holds Try.pinned (OpenSpec.ofChange Rows.bitfileSumSpec) :=
  OpenClaim.holds_of_wide 8 Try.f8 rfl rfl rfl rfl rfl rfl rfl ⟨rfl, rfl, rfl, rfl, rfl⟩ rfl rfl rfl rfl rfl (by kernel_rfl) Try.func8 (by kernel_rfl)
    (of_decide_eq_true (by kernel_rfl)) (by unfold Func.isWrapper; first | (rw [if_pos (by decide +kernel)]; kernel_rfl) | (rw [if_neg (by decide +kernel)]; exact ⟨rfl, rfl⟩))
    (fun os started H enc _ => bitfileSum_lifted os started H enc)

theorem bitfileSum_holds : Rows.BitfileSumSaid := bitfileSum_over
#print axioms bitfileSum_holds
end Go.Proofs.Ytoloaecbfglaeaa
