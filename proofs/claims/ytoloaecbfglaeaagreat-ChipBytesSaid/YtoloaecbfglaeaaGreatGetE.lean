/- Walk of filigree/bitfile.Get: bytes that are no configuration. -/
import Derived.Test.YtoloaecbfglaeaaGreatGetL
import Derived.Deep.RegionHeld3
import Derived.Deep.QuietTactic
import Derived.BigQuiet
import Derived.IntWalk
namespace Go.Proofs.YtoloaecbfglaeaaGreat
open Go.RowKit Go.Shelf
set_option linter.unusedVariables false
set_option linter.unusedSimpArgs false
attribute [local go_sem] Oper.semAt_some

theorem numB_of4 {l : List Nat} (hl : l.length = 4) (h : ∀ x ∈ l, x < 256) : four (numB l) = l := by
  rcases l with _ | ⟨a, _ | ⟨b, _ | ⟨c, _ | ⟨d, _ | ⟨x, l⟩⟩⟩⟩⟩
  all_goals try (simp only [List.length_nil, List.length_cons] at hl; omega)
  exact four_of rfl h _ (by simp [numB]; omega)
set_option maxRecDepth 100000 in
set_option maxHeartbeats 2000000 in
theorem bget_short (A : Option Addr) (n c : Nat) (l : List Nat) (w : World) (hln : l.length = n) (h15 : n < 15) : BGET A n c w (GetOut l w) := by
  unfold BGET
  obtain ⟨R, hR⟩ : ∃ R, GetOut l w = R := ⟨_, rfl⟩
  rw [hR]
  have HR := Lib.hid hR
  have hx : getE l = 310 := by unfold getE; rw [if_pos (.inl (by omega))]
  have HX := Lib.hid hx
  have hd15 : decide ((n : Int) < 15) = true := decide_eq_true (by omega)
  have r0 := Blk.made w 28 #[.int .i64 0, .int .i64 0, .int .i64 0, .slice none 0 0, .slice none 0 0, .slice none 0 0, .slice none 0 0]
  have q0 := below_new w (.cells #[.int .i64 0, .int .i64 0, .int .i64 0, .slice none 0 0, .slice none 0 0, .slice none 0 0, .slice none 0 0] 28)
  have HR0 := Lib.hid r0
  have HQ0 := Lib.hid q0
  clear hR hx hln r0 q0
  go_enter Tryz.func21, Tryz.ntmps21
  go_wp2_with fail
  rw [← HR.out]
  exact get_err0 rfl l w _ _ 310 HQ0.out HR0.out HX.out (by decide) rfl rfl

set_option maxRecDepth 100000 in
set_option maxHeartbeats 2000000 in
theorem bget_magic (a : Addr) (n c : Nat) (l : List Nat) (w : World) (hr : Rd w 1 (some a) n c (bys l)) (hl : ∀ x ∈ l, x < 256) (hn : n ≤ 5000) (h15 : 15 ≤ n) (hm : ¬ l.take 4 = magicB) : BGET (some a) n c w (GetOut l w) := by
  unfold BGET
  obtain ⟨R, hR⟩ : ∃ R, GetOut l w = R := ⟨_, rfl⟩
  rw [hR]
  have HR := Lib.hid hR
  have hln : l.length = n := by have := hr.len; rw [bys_length] at this; omega
  have hcn := hr.cap
  have HRD := Lib.hid hr
  have HL := Lib.hid hl
  have HLN := Lib.hid hln
  have hcv := conv_bytes (hr.later (below_new w (.cells #[.int .i64 0, .int .i64 0, .int .i64 0, .slice none 0 0, .slice none 0 0, .slice none 0 0, .slice none 0 0] 28)))
  have HP := Lib.hid (fun W : World => prefix_any l hl W (by omega) (by omega) false (decide_eq_false hm))
  have hd15 : decide ((n : Int) < 15) = false := decide_eq_false (by omega)
  generalize strB l = sB at hcv HP
  have HM := Lib.hid hm
  clear hR hr hl hln hm
  go_enter Tryz.func21, Tryz.ntmps21
  go_wp2_with fail
  refine (HP.out _).mono ?_
  rintro e w1 ⟨rfl, rfl⟩
  clear hcv HP
  have r0 := Blk.made w 28 #[.int .i64 0, .int .i64 0, .int .i64 0, .slice none 0 0, .slice none 0 0, .slice none 0 0, .slice none 0 0]
  have q0 := below_new w (.cells #[.int .i64 0, .int .i64 0, .int .i64 0, .slice none 0 0, .slice none 0 0, .slice none 0 0, .slice none 0 0] 28)
  generalize w.alloc (.cells #[.int .i64 0, .int .i64 0, .int .i64 0, .slice none 0 0, .slice none 0 0, .slice none 0 0, .slice none 0 0] 28) = W0 at r0 q0 ⊢
  have hx : getE l = 310 := by unfold getE; rw [if_pos (.inr HM.out)]
  have HX := Lib.hid hx
  obtain ⟨r00, r1, r2, r3, r4, r5, r6⟩ := zero_cells r0
  obtain ⟨s0, s1, s2, s3, s4, s5, s6⟩ := free_cells r0
  have HR0 := Lib.hid r0
  have HQ0 := Lib.hid q0
  clear hx r0 q0
  go_wp2_with fail
  rw [← HR.out]
  exact get_err rfl l w W0 _ 310 HQ0.out HR0.out HX.out (by decide) rfl rfl

set_option maxRecDepth 100000 in
set_option maxHeartbeats 4000000 in
theorem bget_arch (a : Addr) (n c : Nat) (l : List Nat) (w : World) (hr : Rd w 1 (some a) n c (bys l)) (hl : ∀ x ∈ l, x < 256) (hn : n ≤ 5000) (hc : c ≤ maxLen) (h15 : 15 ≤ n) (hm : l.take 4 = magicB)
    (hA : ¬ okA (gW l) (gH l) (gT l)) : BGET (some a) n c w (GetOut l w) := by
  unfold BGET
  obtain ⟨R, hR⟩ : ∃ R, GetOut l w = R := ⟨_, rfl⟩
  rw [hR]
  have HR := Lib.hid hR
  have hln : l.length = n := by have := hr.len; rw [bys_length] at this; omega
  have hcn := hr.cap
  have HRD := Lib.hid hr
  have HL := Lib.hid hl
  have HLN := Lib.hid hln
  have hcv := conv_bytes (hr.later (below_new w (.cells #[.int .i64 0, .int .i64 0, .int .i64 0, .slice none 0 0, .slice none 0 0, .slice none 0 0, .slice none 0 0] 28)))
  have HP := Lib.hid (fun W : World => prefix_any l hl W (by omega) (by omega) true (decide_eq_true hm))
  have hd15 : decide ((n : Int) < 15) = false := decide_eq_false (by omega)
  generalize strB l = sB at hcv HP
  have HM := Lib.hid hm
  have HA := Lib.hid hA
  unfold maxLen at hc
  clear hR hr hl hln hm hA
  go_enter Tryz.func21, Tryz.ntmps21
  go_wp2_with fail
  refine (HP.out _).mono ?_
  rintro e w1 ⟨rfl, rfl⟩
  clear hcv HP
  have r0 := Blk.made w 28 #[.int .i64 0, .int .i64 0, .int .i64 0, .slice none 0 0, .slice none 0 0, .slice none 0 0, .slice none 0 0]
  have q0 := below_new w (.cells #[.int .i64 0, .int .i64 0, .int .i64 0, .slice none 0 0, .slice none 0 0, .slice none 0 0, .slice none 0 0] 28)
  have s0 : (w.alloc (.cells #[.int .i64 0, .int .i64 0, .int .i64 0, .slice none 0 0, .slice none 0 0, .slice none 0 0, .slice none 0 0] 28)).heap.size = w.heap.size + 1 := by simp
  go_wp2_with fail
  generalize w.alloc (.cells #[.int .i64 0, .int .i64 0, .int .i64 0, .slice none 0 0, .slice none 0 0, .slice none 0 0, .slice none 0 0] 28) = W0 at r0 q0 s0 ⊢
  have d4 := rd_byte (HRD.out.later q0) (k := 4) (by omega)
  have d5 := rd_byte (HRD.out.later q0) (k := 5) (by omega)
  have d6 := rd_byte (HRD.out.later q0) (k := 6) (by omega)
  rw [add_lit a (by omega)] at d4 d5 d6
  have i4 : (4 : Int) < (n : Int) := by omega
  have i5 : (5 : Int) < (n : Int) := by omega
  have i6 : (6 : Int) < (n : Int) := by omega
  have n4 := World.new_ne W0 _ d4
  have n5 := World.new_ne W0 _ d5
  have n6 := World.new_ne W0 _ d6
  obtain ⟨W, hW⟩ : ∃ W, gW l = W := ⟨_, rfl⟩
  obtain ⟨H, hH⟩ : ∃ H, gH l = H := ⟨_, rfl⟩
  obtain ⟨T, hT⟩ : ∃ T, gT l = T := ⟨_, rfl⟩
  have hA' := HA.out
  rw [show ((l.getD 4 0 : Nat) : Int) = W from hW] at d4
  rw [show ((l.getD 5 0 : Nat) : Int) = H from hH] at d5
  rw [show ((l.getD 6 0 : Nat) : Int) = T from hT] at d6
  rw [hW, hH, hT] at hA'
  have HW := Lib.hid hW
  have HH := Lib.hid hH
  have HT := Lib.hid hT
  have HOK := Lib.hid hA'
  clear hW hH hT hA' HA
  have hb4 := getD_lt HL.out 4
  have hb5 := getD_lt HL.out 5
  have hb6 := getD_lt HL.out 6
  have hb : (0 ≤ W ∧ W ≤ 255) ∧ (0 ≤ H ∧ H ≤ 255) ∧ 0 ≤ T ∧ T ≤ 255 := by
    have h1 := HW.out; have h2 := HH.out; have h3 := HT.out
    unfold gW at h1; unfold gH at h2; unfold gT at h3
    omega
  have wW : IntKind.i64.wrap W = W := IntWalk.i64_in _ (by omega)
  have wH : IntKind.i64.wrap H = H := IntWalk.i64_in _ (by omega)
  have wT : IntKind.i64.wrap T = T := IntWalk.i64_in _ (by omega)
  go_region_held3 (fun w' => w'.cell? ⟨a.block, a.off + 4, none⟩ = some (.int .u8 W) ∧ w'.cell? ⟨a.block, a.off + 5, none⟩ = some (.int .u8 H) ∧ w'.cell? ⟨a.block, a.off + 6, none⟩ = some (.int .u8 T)) (go_keep) (fail)
  have G1 := GW.start (W := W) (H := H) (T := T) q0 r0 s0
  clear wW wH wT n4 n5 n6 d4 d5 d6 r0 q0
  generalize (W0.alloc (.cells #[.int .i64 W, .int .i64 H, .int .i64 T, .slice none 0 0, .slice none 0 0, .slice none 0 0, .slice none 0 0] 28)).drew = W1 at G1 ⊢
  clear s0
  obtain ⟨gc, hgc⟩ : ∃ gc, w.heap.size + 1 = gc := ⟨_, rfl⟩
  rw [hgc] at G1 ⊢
  clear hgc
  have G1 := Lib.hid G1
  have k0 := G1.out.box.cell 0
  have k1 := G1.out.box.cell 1
  have k2 := G1.out.box.cell 2
  simp [Cfg.cells, cfg0] at k0 k1 k2
  go_wp2_with fail
  refine (check_no _ _ _ _ HOK.out).mono ?_
  rintro e w2 ⟨rfl, hb2⟩
  have G2 := Lib.hid (G1.out.keep hb2)
  clear hb2 k0 k1 k2 G1
  have hx : getE l = 310 := by
    unfold getE
    rw [if_neg (by exact fun h => h.elim (fun h => by rw [HLN.out] at h; omega) (fun h => h HM.out)), if_pos (by rw [HW.out, HH.out, HT.out]; exact HOK.out)]
  have HX := Lib.hid hx
  clear hx
  obtain ⟨r0, r1, r2, r3, r4, r5, r6⟩ := GW.zeros G2.out
  obtain ⟨s0, s1, s2, s3, s4, s5, s6⟩ := free_cells G2.out.res
  go_wp2_with fail
  rw [← HR.out]
  exact get_err rfl l w w2 _ 310 G2.out.below G2.out.res HX.out (by decide) rfl rfl

set_option maxRecDepth 100000 in
set_option maxHeartbeats 4000000 in
theorem bget_size (a : Addr) (n c : Nat) (l : List Nat) (w : World) (hr : Rd w 1 (some a) n c (bys l)) (hl : ∀ x ∈ l, x < 256) (hn : n ≤ 5000) (hc : c ≤ maxLen) (h15 : 15 ≤ n) (hm : l.take 4 = magicB)
    (hA : okA (gW l) (gH l) (gT l)) (hsz : ¬ l.length = sizeB l (gN l) + 4) : BGET (some a) n c w (GetOut l w) := by
  unfold BGET
  obtain ⟨R, hR⟩ : ∃ R, GetOut l w = R := ⟨_, rfl⟩
  rw [hR]
  have HR := Lib.hid hR
  have hln : l.length = n := by have := hr.len; rw [bys_length] at this; omega
  have hcn := hr.cap
  have HRD := Lib.hid hr
  have HL := Lib.hid hl
  have HLN := Lib.hid hln
  have hcv := conv_bytes (hr.later (below_new w (.cells #[.int .i64 0, .int .i64 0, .int .i64 0, .slice none 0 0, .slice none 0 0, .slice none 0 0, .slice none 0 0] 28)))
  have HP := Lib.hid (fun W : World => prefix_any l hl W (by omega) (by omega) true (decide_eq_true hm))
  have hd15 : decide ((n : Int) < 15) = false := decide_eq_false (by omega)
  generalize strB l = sB at hcv HP
  have HM := Lib.hid hm
  have HZ := Lib.hid hsz
  have HA := Lib.hid hA
  unfold maxLen at hc
  clear hR hr hl hln hm hsz hA
  go_enter Tryz.func21, Tryz.ntmps21
  go_wp2_with fail
  refine (HP.out _).mono ?_
  rintro e w1 ⟨rfl, rfl⟩
  clear hcv HP
  have r0 := Blk.made w 28 #[.int .i64 0, .int .i64 0, .int .i64 0, .slice none 0 0, .slice none 0 0, .slice none 0 0, .slice none 0 0]
  have q0 := below_new w (.cells #[.int .i64 0, .int .i64 0, .int .i64 0, .slice none 0 0, .slice none 0 0, .slice none 0 0, .slice none 0 0] 28)
  have s0 : (w.alloc (.cells #[.int .i64 0, .int .i64 0, .int .i64 0, .slice none 0 0, .slice none 0 0, .slice none 0 0, .slice none 0 0] 28)).heap.size = w.heap.size + 1 := by simp
  go_wp2_with fail
  generalize w.alloc (.cells #[.int .i64 0, .int .i64 0, .int .i64 0, .slice none 0 0, .slice none 0 0, .slice none 0 0, .slice none 0 0] 28) = W0 at r0 q0 s0 ⊢
  have d4 := rd_byte (HRD.out.later q0) (k := 4) (by omega)
  have d5 := rd_byte (HRD.out.later q0) (k := 5) (by omega)
  have d6 := rd_byte (HRD.out.later q0) (k := 6) (by omega)
  rw [add_lit a (by omega)] at d4 d5 d6
  have i4 : (4 : Int) < (n : Int) := by omega
  have i5 : (5 : Int) < (n : Int) := by omega
  have i6 : (6 : Int) < (n : Int) := by omega
  have n4 := World.new_ne W0 _ d4
  have n5 := World.new_ne W0 _ d5
  have n6 := World.new_ne W0 _ d6
  obtain ⟨W, hW⟩ : ∃ W, gW l = W := ⟨_, rfl⟩
  obtain ⟨H, hH⟩ : ∃ H, gH l = H := ⟨_, rfl⟩
  obtain ⟨T, hT⟩ : ∃ T, gT l = T := ⟨_, rfl⟩
  have hA' := HA.out
  rw [show ((l.getD 4 0 : Nat) : Int) = W from hW] at d4
  rw [show ((l.getD 5 0 : Nat) : Int) = H from hH] at d5
  rw [show ((l.getD 6 0 : Nat) : Int) = T from hT] at d6
  rw [hW, hH, hT] at hA'
  have HW := Lib.hid hW
  have HH := Lib.hid hH
  have HT := Lib.hid hT
  have HOK := Lib.hid hA'
  clear hW hH hT hA' HA
  have hb := HOK.out
  unfold okA at hb
  have wW : IntKind.i64.wrap W = W := IntWalk.i64_in _ (by omega)
  have wH : IntKind.i64.wrap H = H := IntWalk.i64_in _ (by omega)
  have wT : IntKind.i64.wrap T = T := IntWalk.i64_in _ (by omega)
  go_region_held3 (fun w' => w'.cell? ⟨a.block, a.off + 4, none⟩ = some (.int .u8 W) ∧ w'.cell? ⟨a.block, a.off + 5, none⟩ = some (.int .u8 H) ∧ w'.cell? ⟨a.block, a.off + 6, none⟩ = some (.int .u8 T)) (go_keep) (fail)
  have G1 := GW.start (W := W) (H := H) (T := T) q0 r0 s0
  clear wW wH wT n4 n5 n6 d4 d5 d6 r0 q0
  generalize (W0.alloc (.cells #[.int .i64 W, .int .i64 H, .int .i64 T, .slice none 0 0, .slice none 0 0, .slice none 0 0, .slice none 0 0] 28)).drew = W1 at G1 ⊢
  clear s0
  obtain ⟨gc, hgc⟩ : ∃ gc, w.heap.size + 1 = gc := ⟨_, rfl⟩
  rw [hgc] at G1 ⊢
  clear hgc
  have G1 := Lib.hid G1
  have k0 := G1.out.box.cell 0
  have k1 := G1.out.box.cell 1
  have k2 := G1.out.box.cell 2
  simp [Cfg.cells, cfg0] at k0 k1 k2
  go_wp2_with fail
  refine (check_yes _ _ _ _ HOK.out).mono ?_
  rintro e w2 ⟨rfl, hb2⟩
  have G2 := Lib.hid (G1.out.keep hb2)
  clear hb2 k0 k1 k2 G1
  have k0 := G2.out.box.cell 0
  have k1 := G2.out.box.cell 1
  have k2 := G2.out.box.cell 2
  simp [Cfg.cells, cfg0] at k0 k1 k2
  go_wp2_with fail
  refine (edges_yes _ _ _ _ HOK.out).mono ?_
  rintro e w3 ⟨v, rfl, hb3, hown⟩
  have hne : (edgesL W H T).length = gN l := by unfold gN; rw [HW.out, HH.out, HT.out]
  obtain ⟨N, hN⟩ : ∃ N, gN l = N := ⟨_, rfl⟩
  have HN := Lib.hid hN
  have hN6 : N ≤ 6000000 := by rw [← hN, ← hne]; unfold edgesL; rw [sortP_length]; exact rawL_len HOK.out
  rw [hne, hN] at hown
  obtain ⟨AE, cE, rfl⟩ := own_slice hown
  have G3 := Lib.hid (G2.out.keep hb3)
  clear hown hb3 G2 k0 k1 k2 hne hN
  have k0 := G3.out.box.cell 0
  have k1 := G3.out.box.cell 1
  simp [Cfg.cells, cfg0] at k0 k1
  have HU7 := Lib.hid (fun k : Nat => bnum2 (w3.drewN k) a n c l (HRD.out.later (below_drewN G3.out.below k)) HL.out (by omega) 7 (by omega) _ (add_lit a (by omega)).symm)
  have HU9 := Lib.hid (fun k : Nat => bnum2 (w3.drewN k) a n c l (HRD.out.later (below_drewN G3.out.below k)) HL.out (by omega) 9 (by omega) _ (add_lit a (by omega)).symm)
  go_wp2_with fail
  go_quiet ((first | (go_at_call 55; with_reducible exact Calls.quiet_of_same (HU7.out _)) | (go_at_call 55; with_reducible exact Calls.quiet_of_same (HU9.out _))))
  have G4 := Lib.hid (G3.out.drewN nq)
  clear HU7 HU9 k0 k1 G3
  generalize w3.drewN nq = w4 at G4 ⊢
  have hsz := HZ.out
  rw [HLN.out] at hsz
  have hwh := gT_mul l
  rw [HN.out] at hsz
  unfold sizeB atP atS at hsz
  rw [HW.out, HH.out] at hwh
  obtain ⟨nt, hnt⟩ : ∃ nt, nT l = nt := ⟨_, rfl⟩
  obtain ⟨ni, hni⟩ : ∃ ni, num2 l 7 = ni := ⟨_, rfl⟩
  obtain ⟨nu, hnu⟩ : ∃ nu, num2 l 9 = nu := ⟨_, rfl⟩
  unfold nI nU at hsz
  rw [hni, hnu, hnt] at hsz
  rw [hnt] at hwh
  rw [hni, hnu]
  have HNT := Lib.hid hnt
  have HNI := Lib.hid hni
  have HNU := Lib.hid hnu
  have hnt2 : nt ≤ 256 := by
    have h1 : W * H ≤ 16 * 16 := Int.mul_le_mul (by omega) (by omega) (by omega) (by omega)
    omega
  clear hnt hni hnu
  have hnu2 := num2_lt HL.out 9
  have hni2 := num2_lt HL.out 7
  rw [show num2 l 9 = nu from HNU.out] at hnu2
  rw [show num2 l 7 = ni from HNI.out] at hni2
  have k0 := G4.out.box.cell 0
  have k1 := G4.out.box.cell 1
  simp [Cfg.cells, cfg0] at k0 k1
  have hee : (n : Int) - 4 = ((n - 4 : Nat) : Int) := by omega
  have hd10 : (((n - 4 : Nat) : Int) != 11 + 3 * (nt : Int) + ((N : Int) + 7) / 8 + 2 * ((ni : Int) + (nu : Int))) = true := by rw [bne_iff_ne]; omega
  have hx : getE l = 310 := by
    unfold getE
    rw [if_neg (by exact fun h => h.elim (fun h => by rw [HLN.out] at h; omega) (fun h => h HM.out)), if_neg (by rw [HW.out, HH.out, HT.out]; exact fun h => h HOK.out), if_pos HZ.out]
  have HX := Lib.hid hx
  clear hx hsz
  generalize n - 4 = e at hee hd10
  obtain ⟨r0, r1, r2, r3, r4, r5, r6⟩ := GW.zeros G4.out
  obtain ⟨s0, s1, s2, s3, s4, s5, s6⟩ := free_cells G4.out.res
  go_wp2_with fail
  rw [← HR.out]
  exact get_err rfl l w w4 _ 310 G4.out.below G4.out.res HX.out (by decide) rfl rfl

set_option maxRecDepth 100000 in
set_option maxHeartbeats 4000000 in
theorem bget_sum (a : Addr) (n c : Nat) (l : List Nat) (w : World) (hr : Rd w 1 (some a) n c (bys l)) (hl : ∀ x ∈ l, x < 256) (hn : n ≤ 5000) (hc : c ≤ maxLen) (h15 : 15 ≤ n) (hm : l.take 4 = magicB)
    (hA : okA (gW l) (gH l) (gT l)) (hsz : n = sizeB l (gN l) + 4) (hsum : ¬ l.drop (sizeB l (gN l)) = four (sumB (l.take (sizeB l (gN l))))) : BGET (some a) n c w (GetOut l w) := by
  unfold BGET
  obtain ⟨R, hR⟩ : ∃ R, GetOut l w = R := ⟨_, rfl⟩
  rw [hR]
  have HR := Lib.hid hR
  have hln : l.length = n := by have := hr.len; rw [bys_length] at this; omega
  have hcn := hr.cap
  have HRD := Lib.hid hr
  have HL := Lib.hid hl
  have HLN := Lib.hid hln
  have hcv := conv_bytes (hr.later (below_new w (.cells #[.int .i64 0, .int .i64 0, .int .i64 0, .slice none 0 0, .slice none 0 0, .slice none 0 0, .slice none 0 0] 28)))
  have HP := Lib.hid (fun W : World => prefix_any l hl W (by omega) (by omega) true (decide_eq_true hm))
  have hd15 : decide ((n : Int) < 15) = false := decide_eq_false (by omega)
  generalize strB l = sB at hcv HP
  have HM := Lib.hid hm
  have HS := Lib.hid hsum
  have HZ := Lib.hid hsz
  have HA := Lib.hid hA
  unfold maxLen at hc
  clear hR hr hl hln hm hsum hsz hA
  go_enter Tryz.func21, Tryz.ntmps21
  go_wp2_with fail
  refine (HP.out _).mono ?_
  rintro e w1 ⟨rfl, rfl⟩
  clear hcv HP
  have r0 := Blk.made w 28 #[.int .i64 0, .int .i64 0, .int .i64 0, .slice none 0 0, .slice none 0 0, .slice none 0 0, .slice none 0 0]
  have q0 := below_new w (.cells #[.int .i64 0, .int .i64 0, .int .i64 0, .slice none 0 0, .slice none 0 0, .slice none 0 0, .slice none 0 0] 28)
  have s0 : (w.alloc (.cells #[.int .i64 0, .int .i64 0, .int .i64 0, .slice none 0 0, .slice none 0 0, .slice none 0 0, .slice none 0 0] 28)).heap.size = w.heap.size + 1 := by simp
  go_wp2_with fail
  generalize w.alloc (.cells #[.int .i64 0, .int .i64 0, .int .i64 0, .slice none 0 0, .slice none 0 0, .slice none 0 0, .slice none 0 0] 28) = W0 at r0 q0 s0 ⊢
  have d4 := rd_byte (HRD.out.later q0) (k := 4) (by omega)
  have d5 := rd_byte (HRD.out.later q0) (k := 5) (by omega)
  have d6 := rd_byte (HRD.out.later q0) (k := 6) (by omega)
  rw [add_lit a (by omega)] at d4 d5 d6
  have i4 : (4 : Int) < (n : Int) := by omega
  have i5 : (5 : Int) < (n : Int) := by omega
  have i6 : (6 : Int) < (n : Int) := by omega
  have n4 := World.new_ne W0 _ d4
  have n5 := World.new_ne W0 _ d5
  have n6 := World.new_ne W0 _ d6
  obtain ⟨W, hW⟩ : ∃ W, gW l = W := ⟨_, rfl⟩
  obtain ⟨H, hH⟩ : ∃ H, gH l = H := ⟨_, rfl⟩
  obtain ⟨T, hT⟩ : ∃ T, gT l = T := ⟨_, rfl⟩
  have hA' := HA.out
  rw [show ((l.getD 4 0 : Nat) : Int) = W from hW] at d4
  rw [show ((l.getD 5 0 : Nat) : Int) = H from hH] at d5
  rw [show ((l.getD 6 0 : Nat) : Int) = T from hT] at d6
  rw [hW, hH, hT] at hA'
  have HW := Lib.hid hW
  have HH := Lib.hid hH
  have HT := Lib.hid hT
  have HOK := Lib.hid hA'
  clear hW hH hT hA' HA
  have hb := HOK.out
  unfold okA at hb
  have wW : IntKind.i64.wrap W = W := IntWalk.i64_in _ (by omega)
  have wH : IntKind.i64.wrap H = H := IntWalk.i64_in _ (by omega)
  have wT : IntKind.i64.wrap T = T := IntWalk.i64_in _ (by omega)
  go_region_held3 (fun w' => w'.cell? ⟨a.block, a.off + 4, none⟩ = some (.int .u8 W) ∧ w'.cell? ⟨a.block, a.off + 5, none⟩ = some (.int .u8 H) ∧ w'.cell? ⟨a.block, a.off + 6, none⟩ = some (.int .u8 T)) (go_keep) (fail)
  have G1 := GW.start (W := W) (H := H) (T := T) q0 r0 s0
  clear wW wH wT n4 n5 n6 d4 d5 d6 r0 q0
  generalize (W0.alloc (.cells #[.int .i64 W, .int .i64 H, .int .i64 T, .slice none 0 0, .slice none 0 0, .slice none 0 0, .slice none 0 0] 28)).drew = W1 at G1 ⊢
  clear s0
  obtain ⟨gc, hgc⟩ : ∃ gc, w.heap.size + 1 = gc := ⟨_, rfl⟩
  rw [hgc] at G1 ⊢
  clear hgc
  have G1 := Lib.hid G1
  have k0 := G1.out.box.cell 0
  have k1 := G1.out.box.cell 1
  have k2 := G1.out.box.cell 2
  simp [Cfg.cells, cfg0] at k0 k1 k2
  go_wp2_with fail
  refine (check_yes _ _ _ _ HOK.out).mono ?_
  rintro e w2 ⟨rfl, hb2⟩
  have G2 := Lib.hid (G1.out.keep hb2)
  clear hb2 k0 k1 k2 G1
  have k0 := G2.out.box.cell 0
  have k1 := G2.out.box.cell 1
  have k2 := G2.out.box.cell 2
  simp [Cfg.cells, cfg0] at k0 k1 k2
  go_wp2_with fail
  refine (edges_yes _ _ _ _ HOK.out).mono ?_
  rintro e w3 ⟨v, rfl, hb3, hown⟩
  have hne : (edgesL W H T).length = gN l := by unfold gN; rw [HW.out, HH.out, HT.out]
  obtain ⟨N, hN⟩ : ∃ N, gN l = N := ⟨_, rfl⟩
  have HN := Lib.hid hN
  have hN6 : N ≤ 6000000 := by rw [← hN, ← hne]; unfold edgesL; rw [sortP_length]; exact rawL_len HOK.out
  rw [hne, hN] at hown
  obtain ⟨AE, cE, rfl⟩ := own_slice hown
  have G3 := Lib.hid (G2.out.keep hb3)
  clear hown hb3 G2 k0 k1 k2 hne hN
  have k0 := G3.out.box.cell 0
  have k1 := G3.out.box.cell 1
  simp [Cfg.cells, cfg0] at k0 k1
  have HU7 := Lib.hid (fun k : Nat => bnum2 (w3.drewN k) a n c l (HRD.out.later (below_drewN G3.out.below k)) HL.out (by omega) 7 (by omega) _ (add_lit a (by omega)).symm)
  have HU9 := Lib.hid (fun k : Nat => bnum2 (w3.drewN k) a n c l (HRD.out.later (below_drewN G3.out.below k)) HL.out (by omega) 9 (by omega) _ (add_lit a (by omega)).symm)
  go_wp2_with fail
  go_quiet ((first | (go_at_call 55; with_reducible exact Calls.quiet_of_same (HU7.out _)) | (go_at_call 55; with_reducible exact Calls.quiet_of_same (HU9.out _))))
  have G4 := Lib.hid (G3.out.drewN nq)
  clear HU7 HU9 k0 k1 G3
  generalize w3.drewN nq = w4 at G4 ⊢
  have hsz := HZ.out
  have hwh := gT_mul l
  rw [HN.out] at hsz
  unfold sizeB atP atS at hsz
  rw [HW.out, HH.out] at hwh
  obtain ⟨nt, hnt⟩ : ∃ nt, nT l = nt := ⟨_, rfl⟩
  obtain ⟨ni, hni⟩ : ∃ ni, num2 l 7 = ni := ⟨_, rfl⟩
  obtain ⟨nu, hnu⟩ : ∃ nu, num2 l 9 = nu := ⟨_, rfl⟩
  unfold nI nU at hsz
  rw [hni, hnu, hnt] at hsz
  rw [hnt] at hwh
  rw [hni, hnu]
  have HNT := Lib.hid hnt
  have HNI := Lib.hid hni
  have HNU := Lib.hid hnu
  have hnt2 : nt ≤ 256 := by
    have h1 : W * H ≤ 16 * 16 := Int.mul_le_mul (by omega) (by omega) (by omega) (by omega)
    omega
  clear hnt hni hnu
  have k0 := G4.out.box.cell 0
  have k1 := G4.out.box.cell 1
  simp [Cfg.cells, cfg0] at k0 k1
  obtain ⟨e, he⟩ : ∃ e : Nat, n = e + 4 := ⟨n - 4, by omega⟩
  have hee : (n : Int) - 4 = (e : Int) := by omega
  have hd10 : ((e : Int) != 11 + 3 * (nt : Int) + ((N : Int) + 7) / 8 + 2 * ((ni : Int) + (nu : Int))) = false := by rw [bne_eq_false_iff_eq]; omega
  have HSZ := Lib.hid hsz
  have hb1 : nt + N + ni + nu ≤ 100000 := by omega
  have he1 : e + 4 ≤ n := by omega
  have he2 : n ≤ e + 4 := by omega
  clear hsz he
  go_wp2_with fail
  have hS := HS.out
  have hes : sizeB l (gN l) = e := by have := HZ.out; omega
  rw [hes] at hS
  have hbs := fun k : Nat => bsum_any (w4.drewN k) (some a) e c (l.take e) (rd_take (HRD.out.later (below_drewN G4.out.below k)) (by omega)) (fun x hx => HL.out x (List.mem_of_mem_take hx)) (by omega)
  have hbn := fun k : Nat => bnumber_any (w4.drewN k) (some (a.add e)) 4 (c - e) ((l.drop e).take 4) (rd_cut (HRD.out.later (below_drewN G4.out.below k)) (by omega) (by omega)) (fun x hx => HL.out x (List.mem_of_mem_drop (List.mem_of_mem_take hx))) (by omega)
  have hse := sumB_lt (l.take e)
  have hl4 : ((l.drop e).take 4).length = 4 := by rw [List.length_take, List.length_drop, HLN.out]; omega
  have hnl := numB_lt ((l.drop e).take 4) 4 (fun x hx => HL.out x (List.mem_of_mem_drop (List.mem_of_mem_take hx))) (by omega)
  rw [List.take_of_length_le (by omega)] at hnl
  have hne : ¬ sumB (l.take e) = numB ((l.drop e).take 4) := fun h => hS (by
    have h4 := numB_of4 hl4 (fun x hx => HL.out x (List.mem_of_mem_drop (List.mem_of_mem_take hx)))
    rw [← h] at h4
    rw [h4]
    exact (List.take_of_length_le (by rw [List.length_drop, HLN.out]; omega)).symm)
  generalize numB ((l.drop e).take 4) = sq at hbn hnl hne
  generalize sumB (l.take e) = sm at hbs hse hne
  have HBS := Lib.hid hbs
  have HBN := Lib.hid hbn
  have h4 : n - e = 4 := by omega
  have hu33 : ((sm : Int) != (sq : Int)) = true := by rw [bne_iff_ne]; omega
  clear hS hes hne hl4 hbs hbn hwh k0 k1 hd10 hd15 i4 i5 i6
  have hu32 : IntKind.u32.wrap (sq : Int) = (sq : Int) := by
    have h1 : (sq : Int) % 4294967296 = (sq : Int) := by omega
    simpa [IntKind.wrap, IntKind.bits, IntKind.signed] using h1
  go_quiet ((first | (go_at_call 43; with_reducible exact Calls.quiet_of_same (HBS.out _)) | (go_at_call 55; with_reducible exact Calls.quiet_of_same (HBN.out _))))
  have G5 := Lib.hid (G4.out.drewN nq)
  clear HBS HBN hu32 hu33 hse hb1 h4 G4
  generalize w4.drewN nq = w5 at G5 ⊢
  have hx : getE l = 311 := by
    unfold getE
    rw [if_neg (by exact fun h => h.elim (fun h => by rw [HLN.out] at h; omega) (fun h => h HM.out)), if_neg (by rw [HW.out, HH.out, HT.out]; exact fun h => h HOK.out), if_neg (by rw [HLN.out]; exact fun h => h HZ.out), if_pos HS.out]
  have HX := Lib.hid hx
  clear hx
  obtain ⟨r0, r1, r2, r3, r4, r5, r6⟩ := GW.zeros G5.out
  obtain ⟨s0, s1, s2, s3, s4, s5, s6⟩ := free_cells G5.out.res
  go_wp2_with fail
  rw [← HR.out]
  exact get_err rfl l w w5 _ 311 G5.out.below G5.out.res HX.out (by decide) rfl rfl
end Go.Proofs.YtoloaecbfglaeaaGreat
