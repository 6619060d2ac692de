/- Walk of filigreeref31.Get: bytes as a configuration. -/
import Derived.Test.YtoloaecbfglaeaaRgetS
import Derived.Deep.RegionHeld3
import Derived.Deep.QuietTactic
import Derived.BigQuiet
import Derived.IntWalk
namespace Go.Proofs.Ytoloaecbfglaeaa
open Go.RowKit Go.Shelf
set_option linter.unusedVariables false
set_option linter.unusedSimpArgs false
attribute [local go_sem] Oper.semAt_some
theorem rbool_info : (Try.prog.info? 4).map (fun i => (i.zero, i.size, i.bytes)) = some (some (.bool false), 1, 1) := by kernel_rfl
theorem gc_far0 {w w' : World} {gc n c k : Nat} {a : Addr} {l : List Nat} {C : Cfg} (hr : Rd w 1 (some a) n c (bys l)) (h : GW w w' gc C) (hk : k < n) (i o : Nat) : (⟨gc, i, none⟩ : Addr) ≠ ⟨a.block, o, none⟩ := by
  have := gc_far hr h hk i o
  rwa [add_block] at this
theorem gc_blk {w w' : World} {gc n c k : Nat} {a : Addr} {l : List Nat} {C : Cfg} (hr : Rd w 1 (some a) n c (bys l)) (h : GW w w' gc C) (hk : k < n) : gc ≠ (a.add k).block := by
  obtain ⟨a', e, hb, -⟩ := hr.byte hk
  obtain rfl := Option.some.inj e
  have := h.hgc
  rw [add_block]
  omega

set_option maxRecDepth 100000 in
set_option maxHeartbeats 8000000 in
theorem rget_long (a : Addr) (n c : Nat) (l : List Nat) (w : World) (hr : Rd w 1 (some a) n c (bys l)) (hl : ∀ x ∈ l, x < 256) (hn : n ≤ 5000) (hc : c ≤ maxLen) (h15 : 15 ≤ n) (hm : l.take 4 = magicB)
    (hA : okA (gW l) (gH l) (gT l)) (hz : l.length = sizeB l (gN l) + 4) (hs : l.drop (sizeB l (gN l)) = four (sumB (l.take (sizeB l (gN l))))) : RGET (some a) n c w (GetOut l w) := by
  unfold RGET
  obtain ⟨R, hR⟩ : ∃ R, GetOut l w = R := ⟨_, rfl⟩
  rw [hR]
  have HR := Lib.hid hR
  have hln : l.length = n := by have := hr.len; rw [bys_length] at this; omega
  have hcn := hr.cap
  have HRD := Lib.hid hr
  have HL := Lib.hid hl
  have HLN := Lib.hid hln
  have hd15 : decide ((n : Int) < 15) = false := decide_eq_false (by omega)
  have HM := Lib.hid hm
  have HA := Lib.hid hA
  have HZ := Lib.hid hz
  have HS := Lib.hid hs
  unfold maxLen at hc
  clear hR hr hl hln hm hA hz hs
  go_enter Try.func20, Try.ntmps20
  go_upto_region 2 with (fail)
  have q0 : Below w.heap.size w ((w.alloc (.cells #[.int .i64 0, .int .i64 0, .int .i64 0, .slice none 0 0, .slice none 0 0, .slice none 0 0, .slice none 0 0] 28)).alloc (.cells #[.int .i64 0, .int .i64 0, .int .i64 0, .slice none 0 0, .slice none 0 0, .slice none 0 0, .slice none 0 0] 28)) := below_then (below_new w _) (below_new (w.alloc _) _)
  have r0 : Blk ((w.alloc (.cells #[.int .i64 0, .int .i64 0, .int .i64 0, .slice none 0 0, .slice none 0 0, .slice none 0 0, .slice none 0 0] 28)).alloc (.cells #[.int .i64 0, .int .i64 0, .int .i64 0, .slice none 0 0, .slice none 0 0, .slice none 0 0, .slice none 0 0] 28)) w.heap.size 28 zero7 := (Blk.made w 28 zero7).alloc _
  have r1 : Blk ((w.alloc (.cells #[.int .i64 0, .int .i64 0, .int .i64 0, .slice none 0 0, .slice none 0 0, .slice none 0 0, .slice none 0 0] 28)).alloc (.cells #[.int .i64 0, .int .i64 0, .int .i64 0, .slice none 0 0, .slice none 0 0, .slice none 0 0, .slice none 0 0] 28)) (w.heap.size + 1) 28 zero7 := by have := Blk.made (w.alloc (.cells #[.int .i64 0, .int .i64 0, .int .i64 0, .slice none 0 0, .slice none 0 0, .slice none 0 0, .slice none 0 0] 28)) 28 zero7; simpa using this
  have s0 : ((w.alloc (.cells #[.int .i64 0, .int .i64 0, .int .i64 0, .slice none 0 0, .slice none 0 0, .slice none 0 0, .slice none 0 0] 28)).alloc (.cells #[.int .i64 0, .int .i64 0, .int .i64 0, .slice none 0 0, .slice none 0 0, .slice none 0 0, .slice none 0 0] 28)).heap.size = w.heap.size + 2 := by simp
  generalize ((w.alloc (.cells #[.int .i64 0, .int .i64 0, .int .i64 0, .slice none 0 0, .slice none 0 0, .slice none 0 0, .slice none 0 0] 28)).alloc (.cells #[.int .i64 0, .int .i64 0, .int .i64 0, .slice none 0 0, .slice none 0 0, .slice none 0 0, .slice none 0 0] 28)) = W0 at r0 r1 q0 s0 ⊢
  have hcv := conv_bytes (rd_take (HRD.out.later q0) (m := 4) (by omega))
  have hms : ((strB (l.take 4)).toList == [70, 71, 66, 49]) = true := by
    have h := HM.out
    rw [strB_list (fun x hx => HL.out x (List.mem_of_mem_take hx))]
    exact decide_eq_true h
  generalize strB (l.take 4) = sB at hcv hms
  have d4 := rd_byte (HRD.out.later q0) (k := 4) (by omega)
  have d5 := rd_byte (HRD.out.later q0) (k := 5) (by omega)
  have d6 := rd_byte (HRD.out.later q0) (k := 6) (by omega)
  rw [add_lit a (by omega)] at d4 d5 d6
  have i4 : (4 : Int) < (n : Int) := by omega
  have i5 : (5 : Int) < (n : Int) := by omega
  have i6 : (6 : Int) < (n : Int) := by omega
  have n4 := World.new_ne W0 _ d4
  have n5 := World.new_ne W0 _ d5
  have n6 := World.new_ne W0 _ d6
  obtain ⟨W, hW⟩ : ∃ W, gW l = W := ⟨_, rfl⟩
  obtain ⟨H, hH⟩ : ∃ H, gH l = H := ⟨_, rfl⟩
  obtain ⟨T, hT⟩ : ∃ T, gT l = T := ⟨_, rfl⟩
  have hA' := HA.out
  rw [show ((l.getD 4 0 : Nat) : Int) = W from hW] at d4
  rw [show ((l.getD 5 0 : Nat) : Int) = H from hH] at d5
  rw [show ((l.getD 6 0 : Nat) : Int) = T from hT] at d6
  rw [hW, hH, hT] at hA'
  have HW := Lib.hid hW
  have HH := Lib.hid hH
  have HT := Lib.hid hT
  have HOK := Lib.hid hA'
  clear hW hH hT hA' HA
  have hb := HOK.out
  unfold okA at hb
  have wW : IntKind.i64.wrap W = W := IntWalk.i64_in _ (by omega)
  have wH : IntKind.i64.wrap H = H := IntWalk.i64_in _ (by omega)
  have wT : IntKind.i64.wrap T = T := IntWalk.i64_in _ (by omega)
  go_wp2_with fail
  go_region_held3 (fun w' => w'.cell? ⟨a.block, a.off + 4, none⟩ = some (.int .u8 W) ∧ w'.cell? ⟨a.block, a.off + 5, none⟩ = some (.int .u8 H) ∧ w'.cell? ⟨a.block, a.off + 6, none⟩ = some (.int .u8 T)) (go_keep) (fail)
  have G1 : RB w (W0.alloc (.cells #[.int .i64 W, .int .i64 H, .int .i64 T] 23)).drew W H T :=
    ⟨below_drewN (below_then q0 (below_new _ _)) 1, (r0.alloc _), (r1.alloc _), by have := Blk.made W0 23 #[.int .i64 W, .int .i64 H, .int .i64 T]; rw [s0] at this; exact this⟩
  clear wW wH wT n4 n5 n6 d4 d5 d6 r0 r1 q0
  generalize (W0.alloc (.cells #[.int .i64 W, .int .i64 H, .int .i64 T] 23)).drew = W1 at G1 ⊢
  clear s0
  have G1 := Lib.hid G1
  obtain ⟨k0, k1, k2⟩ := G1.out.cells
  go_wp2_with fail
  refine (rcheck_any _ _ _ _).mono ?_
  rintro e w2 ⟨rfl, hb2⟩
  have G2 := Lib.hid (G1.out.keep hb2)
  have hce : chkE W H T = 0 := by unfold chkE; rw [if_pos HOK.out]
  rw [hce]
  clear hb2 k0 k1 k2 G1 hce
  have HU7 := Lib.hid (fun W : World => fun hW : Below w.heap.size w W => rnumber_any W (some a) n c l 7 (HRD.out.later hW) HL.out (by omega) (by omega))
  have HU9 := Lib.hid (fun W : World => fun hW : Below w.heap.size w W => rnumber_any W (some a) n c l 9 (HRD.out.later hW) HL.out (by omega) (by omega))
  go_wp2_with fail
  refine (HU7.out _ G2.out.below).mono ?_
  rintro e w3 ⟨rfl, hb3⟩
  have G3 := Lib.hid (G2.out.keep hb3)
  clear hb3 G2 HU7
  go_wp2_with fail
  refine (HU9.out _ G3.out.below).mono ?_
  rintro e w4 ⟨rfl, hb4⟩
  have G4 := Lib.hid (G3.out.keep hb4)
  clear hb4 G3 HU9
  obtain ⟨k0, k1, k2⟩ := G4.out.cells
  go_wp2_with fail
  refine (rswitches_yes _ _ _ _ HOK.out).mono ?_
  rintro e w5 ⟨rfl, hb5⟩
  have hne : (edgesL W H T).length = gN l := by unfold gN; rw [HW.out, HH.out, HT.out]
  obtain ⟨N, hN⟩ : ∃ N, gN l = N := ⟨_, rfl⟩
  have HN := Lib.hid hN
  have hN6 : N ≤ 6000000 := by rw [← hN, ← hne]; unfold edgesL; rw [sortP_length]; exact rawL_len HOK.out
  rw [hne, hN]
  have G5 := Lib.hid (G4.out.keep hb5)
  clear hb5 G4 k0 k1 k2 hne hN
  obtain ⟨k0, k1, k2⟩ := G5.out.cells
  have hwh := gT_mul l
  rw [HW.out, HH.out] at hwh
  obtain ⟨nt, hnt⟩ : ∃ nt, nT l = nt := ⟨_, rfl⟩
  obtain ⟨ni, hni⟩ : ∃ ni, num2 l 7 = ni := ⟨_, rfl⟩
  obtain ⟨nu, hnu⟩ : ∃ nu, num2 l 9 = nu := ⟨_, rfl⟩
  have hni2 := num2_lt HL.out 7
  have hnu2 := num2_lt HL.out 9
  rw [hni] at hni2
  rw [hnu] at hnu2
  have hsz : sizeB l N = 11 + 3 * nt + (N + 7) / 8 + 2 * (ni + nu) := by unfold sizeB atP atS nI nU; rw [hni, hnu, hnt]
  rw [hnt] at hwh
  rw [hni, hnu]
  have HNT := Lib.hid hnt
  have HNI := Lib.hid hni
  have HNU := Lib.hid hnu
  have hnt2 : nt ≤ 256 := by
    have h1 : W * H ≤ 16 * 16 := Int.mul_le_mul (by omega) (by omega) (by omega) (by omega)
    omega
  have hw3 : 3 * W * H = 3 * (nt : Int) := by rw [Int.mul_assoc, hwh]
  clear hnt hni hnu
  obtain ⟨e, he⟩ : ∃ e, sizeB l N = e := ⟨_, rfl⟩
  rw [he] at hsz
  have hee : 11 + 3 * (nt : Int) + ((N : Int) + 7) / 8 + 2 * (ni : Int) + 2 * (nu : Int) = (e : Int) := by omega
  have HE := Lib.hid he
  have HSZ := Lib.hid hsz
  clear he
  have hd10 : ((n : Int) != (e : Int) + 4) = false := by
    have h := HZ.out
    rw [HLN.out, HN.out, HE.out] at h
    rw [bne_eq_false_iff_eq]; omega
  have hen : n = e + 4 := by
    have h := HZ.out
    rwa [HLN.out, HN.out, HE.out] at h
  have hen1 : e + 4 ≤ n := by omega
  have hen2 : n ≤ e + 4 := by omega
  clear hen
  have he1 : (e : Int) ≤ (n : Int) := by omega
  have he2 : (e : Int) ≤ (c : Int) := by omega
  have he0 : (0 : Int) ≤ (e : Int) := by omega
  have hce : ¬ c = e := by omega
  obtain ⟨F, hF⟩ : ∃ F, four (sumB (l.take e)) = F := ⟨_, rfl⟩
  have HTL := Lib.hid (fun (W : World) (hW : Below w.heap.size w W) => rtail_any W (some a) e c (l.take e) (rd_take (HRD.out.later hW) (by omega)) (fun x hx => HL.out x (List.mem_of_mem_take hx)) (by omega))
  rw [hF] at HTL
  have hF4 : F.length = 4 := by rw [← hF]; rfl
  have hF2 : ∀ x ∈ F, x < 256 := by rw [← hF]; exact four_lt _
  have hdr : (l.drop e).take 4 = l.drop e := List.take_of_length_le (by rw [List.length_drop, HLN.out]; omega)
  have HCV := Lib.hid (fun (W : World) (hW : Below w.heap.size w W) => conv_bytes (rd_cut (HRD.out.later hW) (k := e) (m := 4) (by omega) (by omega)))
  have HCF := Lib.hid (fun (W : World) (A : Option Addr) (n c : Nat) (h : Rd W 1 A n c (bys F)) => conv_bytes h)
  have hneq : ((strB F).toList == (strB (l.drop e)).toList) = true := by
    have h := HS.out
    rw [HN.out, HE.out, hF] at h
    rw [strB_lists hF2 (fun x hx => HL.out x (List.mem_of_mem_drop hx))]
    exact decide_eq_true h.symm
  have HF := Lib.hid hF
  rw [hdr] at HCV
  generalize strB F = sF at HCF hneq
  generalize strB (l.drop e) = sC at HCV hneq
  have HNE := Lib.hid hneq
  have h4 : n - e = 4 := by omega
  clear hF hF2 hdr hneq hsz
  go_wp2_with fail
  refine wp_region_held_drew (S := (fun w2 => (convert 34 9 (.slice (some (a.add e)) 4 (c - e))).run Try.prog w2 = .ok (.string sC) w2)) (by kernel_rfl) ?_ (fun hHeld => ?_)
  · first | exact HCV.out _ (below_drewN G5.out.below 1) | exact HCV.out _ G6.out.below
  refine wpAnyH_take (i := 0) (oi := { dst := some 73, op := Op.move (Operand.tmp 0), type := 34, pos := _, after := #[], guard := none }) (v := ?_) rfl (by kernel_rfl) (by kernel_rfl) (by kernel_rfl) (fun _ _ _ h => h) (Or.inl ⟨by rfl, ?_⟩) (by assumption) ?_
  rotate_left
  · intro w hSw; (try dsimp only at hSw); go_simp; (try with_reducible rfl)
  try simp only [Act.put, List.setIfInBounds_toArray, List.set_cons_zero, List.set_cons_succ]
  refine wpAnyH_take (i := 1) (oi := { dst := some 74, op := Op.move (Operand.tmp 9), type := 3, pos := _, after := #[], guard := none }) (v := ?_) rfl (by kernel_rfl) (by kernel_rfl) (by kernel_rfl) (fun _ _ _ h => h) (Or.inl ⟨by rfl, ?_⟩) (by assumption) ?_
  rotate_left
  · intro w hSw; (try dsimp only at hSw); go_simp; (try with_reducible rfl)
  try simp only [Act.put, List.setIfInBounds_toArray, List.set_cons_zero, List.set_cons_succ]
  refine wpAnyH_take (i := 2) (oi := { dst := some 75, op := Op.slice 34 (Operand.tmp 73) none (some (Operand.tmp 74)) none, type := 34, pos := _, after := #[{ on := 0, ground := Ground.data }, { on := 1, ground := Ground.data }], guard := none }) (v := ?_) rfl (by kernel_rfl) (by kernel_rfl) (by kernel_rfl) (fun _ _ _ h => h) (Or.inl ⟨by rfl, ?_⟩) (by assumption) ?_
  rotate_left
  · intro w hSw; (try dsimp only at hSw); go_simp; (try with_reducible rfl)
  try simp only [Act.put, List.setIfInBounds_toArray, List.set_cons_zero, List.set_cons_succ]
  refine wpAnyH_take (i := 5) (oi := { dst := some 78, op := Op.move (Operand.tmp 0), type := 34, pos := _, after := #[], guard := none }) (v := ?_) rfl (by kernel_rfl) (by kernel_rfl) (by kernel_rfl) (fun _ _ _ h => h) (Or.inl ⟨by rfl, ?_⟩) (by assumption) ?_
  rotate_left
  · intro w hSw; (try dsimp only at hSw); go_simp; (try with_reducible rfl)
  try simp only [Act.put, List.setIfInBounds_toArray, List.set_cons_zero, List.set_cons_succ]
  refine wpAnyH_take (i := 6) (oi := { dst := some 79, op := Op.move (Operand.tmp 9), type := 3, pos := _, after := #[], guard := none }) (v := ?_) rfl (by kernel_rfl) (by kernel_rfl) (by kernel_rfl) (fun _ _ _ h => h) (Or.inl ⟨by rfl, ?_⟩) (by assumption) ?_
  rotate_left
  · intro w hSw; (try dsimp only at hSw); go_simp; (try with_reducible rfl)
  try simp only [Act.put, List.setIfInBounds_toArray, List.set_cons_zero, List.set_cons_succ]
  refine wpAnyH_take (i := 7) (oi := { dst := some 80, op := Op.slice 34 (Operand.tmp 78) (some (Operand.tmp 79)) none none, type := 34, pos := _, after := #[{ on := 5, ground := Ground.data }, { on := 6, ground := Ground.data }], guard := none }) (v := ?_) rfl (by kernel_rfl) (by kernel_rfl) (by kernel_rfl) (fun _ _ _ h => h) (Or.inl ⟨by rfl, ?_⟩) (by assumption) ?_
  rotate_left
  · intro w hSw; (try dsimp only at hSw); go_simp; (try with_reducible rfl)
  try simp only [Act.put, List.setIfInBounds_toArray, List.set_cons_zero, List.set_cons_succ]
  refine wpAnyH_take (i := 8) (oi := { dst := some 81, op := Op.convert 34 9 (Operand.tmp 80), type := 9, pos := _, after := #[{ on := 7, ground := Ground.data }], guard := none }) (v := ?_) rfl (by kernel_rfl) (by kernel_rfl) (by kernel_rfl) (fun _ _ _ h => h) (Or.inl ⟨by rfl, ?_⟩) (by assumption) ?_
  rotate_left
  · intro w hSw; (try dsimp only at hSw); go_simp; (try with_reducible rfl)
  try simp only [Act.put, List.setIfInBounds_toArray, List.set_cons_zero, List.set_cons_succ]
  refine wpAnyH_ready (rs := [3]) (by kernel_rfl) (by simp) ?_
  refine AllReadyH.cons (o := { dst := some 76, op := Op.call { callee := Callee.value (Operand.func 55), args := #[Operand.tmp 75], argTypes := #[34] }, type := 34, pos := _, after := #[{ on := 2, ground := Ground.data }], guard := none }) rfl (fun K hK => ?_) AllReadyH.nil
  go_simp
  with_reducible refine (HTL.out _ ?_).mono ?_
  · exact below_drewN G5.out.below 1
  rintro e6 w6 ⟨A6, c6, rfl, hb6, ho6⟩
  have hcv6 := HCF.out w6 _ _ _ (Rd.of_own ho6)
  rw [hF4] at hcv6
  have G6 := Lib.hid ((G5.out.keep (below_drewN (Below.refl _ _) 1)).keep hb6)
  refine hK.out _ _ ?_ (fun hHeld => ?_)
  · first | exact HCV.out _ (below_drewN G5.out.below 1) | exact HCV.out _ G6.out.below
  clear hK K
  try simp only [Act.put, List.setIfInBounds_toArray, List.set_cons_zero, List.set_cons_succ]
  refine wpAnyH_ready (rs := [4]) (by kernel_rfl) (by simp) ?_
  refine AllReadyH.cons (o := { dst := some 77, op := Op.convert 34 9 (Operand.tmp 76), type := 9, pos := _, after := #[{ on := 3, ground := Ground.data }], guard := none }) rfl (fun K hK => ?_) AllReadyH.nil
  go_simp
  refine hK.out _ _ ?_ (fun hHeld => ?_)
  · first | exact HCV.out _ (below_drewN G5.out.below 1) | exact HCV.out _ G6.out.below
  clear hK K
  try simp only [Act.put, List.setIfInBounds_toArray, List.set_cons_zero, List.set_cons_succ]
  refine wpAnyH_ready (rs := [9]) (by kernel_rfl) (by simp) ?_
  refine AllReadyH.cons (o := { dst := some 82, op := Op.binOp BinOp.neq 9 (Operand.tmp 77) (Operand.tmp 81) 9, type := 4, pos := _, after := #[{ on := 4, ground := Ground.data }, { on := 8, ground := Ground.data }], guard := none }) rfl (fun K hK => ?_) AllReadyH.nil
  go_simp
  rw [HNE.out]
  simp only [Bool.not_true, Bool.not_false]
  refine hK.out _ _ ?_ (fun hHeld => ?_)
  · first | exact HCV.out _ (below_drewN G5.out.below 1) | exact HCV.out _ G6.out.below
  clear hK K
  try simp only [Act.put, List.setIfInBounds_toArray, List.set_cons_zero, List.set_cons_succ]
  refine wpAnyH_done (by kernel_rfl) ?_ _
  clear G5 hcv6 ho6 hb6 HCV HCF HTL HNE hHeld k0 k1 k2
  obtain ⟨k0, k1, k2⟩ := G6.out.cells
  go_wp2_with fail
  have S6 := Lib.hid (RG.start G6.out)
  generalize w6.alloc (.cells #[.int .i64 W, .int .i64 H, .int .i64 T, .slice none 0 0, .slice none 0 0, .slice none 0 0, .slice none 0 0] 28) = w7 at S6 ⊢
  generalize w6.heap.size = gc at S6 ⊢
  clear G6 k0 k1 k2 h4 hF4 hd10 hd15 hee hw3 i4 i5 i6 he0 he1 he2
  have HX0 : Hid (getE l = if (oddT l 11 nt || oddS l (atS l) N) = true then 310 else if ¬ okG l then 310 else 0) := Lib.hid (by
    have h := getE_of (l := l) (by rw [HLN.out]; omega) HM.out (by rw [HW.out, HH.out, HT.out]; exact HOK.out) HZ.out HS.out
    rwa [HNT.out, HN.out] at h)
  go_loopw [11, 12] (fun o i wx => ∃ (k : Nat) (C : Cfg), k ≤ nt ∧ o = .int .i64 ((11 + 3 * k : Nat) : Int) ∧ i = .int .i64 (k : Int) ∧ oddT l 11 k = false ∧ C.tiles = tilesAt l 11 k ∧ TR1 C W H T ∧ RG w wx gc W H T C) (fun _ i _ => nt - (intOf i).toNat)
  case atStart => exact ⟨0, cfg0 W H T, by omega, rfl, rfl, by simp [oddT], by simp [cfg0, tilesAt], ⟨rfl, rfl, rfl, rfl, rfl, rfl, rfl⟩, S6.out⟩
  case round =>
    clear S6
    obtain ⟨k, C, hk, rfl, rfl, hod, hct, htr, hs⟩ := hrel
    have HCT := Lib.hid hct
    have HTR := Lib.hid htr
    have HOD0 := Lib.hid hod
    obtain ⟨p, hp⟩ : ∃ p, 11 + 3 * k = p := ⟨_, rfl⟩
    rw [hp]
    have HPP := Lib.hid hp
    have S7 := Lib.hid hs
    obtain ⟨k0, k1, k2⟩ := S7.out.rb.cells
    clear hct htr hs hp hod
    by_cases hlt : k < nt
    · have hpe : p + 3 ≤ e := by have := HSZ.out; have := HPP.out; omega
      have hp0 : (0 : Int) ≤ (p : Int) + 2 := by omega
      have hp1 : (p : Int) + 2 < (n : Int) := by omega
      have hp2 : ((p : Int) + 2).toNat = p + 2 := by omega
      have hp3 : IntKind.i64.wrap ((p : Int) + 2) = (p : Int) + 2 := IntWalk.i64_in _ (by omega)
      have d2 := rd_byte (HRD.out.later S7.out.gw.below) (k := p + 2) (by omega)
      rw [add_lit a (by omega)] at d2
      have k3 : wr.cell? ⟨gc, 3, none⟩ = some (.slice C.AT C.tiles.length C.cT) := S7.out.gw.box.cell 3
      have f3 := S7.out.gw.box.free 3
      have hx2 := getD_lt HL.out (p + 2)
      have hod := oddT_next l 11 k
      have htn := tilesAt_next l 11 k
      rw [HPP.out] at hod htn
      rw [HOD0.out, Bool.false_or] at hod
      obtain ⟨x2, hx2e⟩ : ∃ x2, l.getD (p + 2) 0 = x2 := ⟨_, rfl⟩
      rw [hx2e] at d2 hx2 hod htn
      have HX2 := Lib.hid hx2e
      clear hx2e HOD0
      have n2 := World.new_ne wr _ d2
      have n3 := World.new_ne wr _ k3
      by_cases h3 : 3 < x2
      · have hd3 : decide ((3 : Int) < (x2 : Int)) = true := decide_eq_true (by omega)
        have hx : getE l = 310 := by
          rw [HX0.out, oddT_mono l 11 (show k + 1 ≤ nt by omega) (by rw [hod]; exact decide_eq_true h3)]
          simp
        have HX := Lib.hid hx
        clear hx hod htn
        obtain ⟨r0, r1, r2, r3, r4, r5, r6⟩ := zero_cells S7.out.gw.res
        obtain ⟨s0, s1, s2, s3, s4, s5, s6⟩ := free_cells S7.out.gw.res
        obtain ⟨t0, t1, t2, t3, t4, t5, t6⟩ := zero_cells S7.out.non
        go_wp2_with fail
        rw [← HR.out]
        exact get_err rfl l w wr _ 310 S7.out.gw.below S7.out.gw.res HX.out (by decide) rfl rfl
      · have hd3 : decide ((3 : Int) < (x2 : Int)) = false := decide_eq_false (by omega)
        rw [decide_eq_false h3] at hod
        have HOD := Lib.hid hod
        have ha1 := and1_u8 x2 hx2
        have ha2 := and2_u8 x2 hx2
        obtain ⟨b1, hb1⟩ : ∃ b1, decide (x2 % 2 = 1) = b1 := ⟨_, rfl⟩
        obtain ⟨b2, hb2⟩ : ∃ b2, decide (x2 / 2 % 2 = 1) = b2 := ⟨_, rfl⟩
        have hn1 : (bits .and .u8 (x2 : Int) 1 == 1) = b1 := by rw [ha1, bit_eq, hb1]
        have hn2 : (bits .and .u8 (x2 : Int) 2 == 2) = b2 := by rw [ha2, bit2_eq, hb2]
        rw [hb1, hb2] at htn
        have HTN := Lib.hid htn
        clear hod htn ha1 ha2 hb1 hb2
        have HNM := Lib.hid (fun (W : World) (hW : Below w.heap.size w W) => rnumber_any W (some a) n c l p (HRD.out.later hW) HL.out (by omega) (by omega))
        have hTL : C.tiles.length ≤ 256 := by rw [HCT.out, tilesAt_len]; omega
        obtain ⟨i0, hi0, hz0, hz1, hz2⟩ := info_parts tile_info
        have HI0 := Lib.hid hi0
        have HZ0 := Lib.hid hz0
        have HZ1 := Lib.hid hz1
        have HZ2 := Lib.hid hz2
        clear hi0 hz0 hz1 hz2
        go_wp2_with fail
        refine wp_region_held_drew (S := (fun w2 => w2.cell? ⟨a.block, a.off + (p + 2), none⟩ = some (.int .u8 (x2 : Int)))) (by kernel_rfl) ?_ (fun hHeld => ?_)
        · first | go_keep | exact d8 | exact d9 | exact (World.cell?_setCell_other _ _ _ _ (by first | exact m9 | exact m9.symm)).trans d9
        refine wpAnyH_take (i := 0) (oi := { dst := some 102, op := Op.fieldAddr 28 (Operand.tmp 10) 1, type := 0, pos := _, after := #[], guard := none }) (v := ?_) rfl (by kernel_rfl) (by kernel_rfl) (by kernel_rfl) (fun _ _ _ h => h) (Or.inl ⟨by rfl, ?_⟩) (by assumption) ?_
        rotate_left
        · intro w hSw; (try dsimp only at hSw); go_simp; (try with_reducible rfl)
        try simp only [Act.put, List.setIfInBounds_toArray, List.set_cons_zero, List.set_cons_succ]
        refine wpAnyH_take (i := 2) (oi := { dst := some 104, op := Op.move (Operand.tmp 0), type := 34, pos := _, after := #[], guard := none }) (v := ?_) rfl (by kernel_rfl) (by kernel_rfl) (by kernel_rfl) (fun _ _ _ h => h) (Or.inl ⟨by rfl, ?_⟩) (by assumption) ?_
        rotate_left
        · intro w hSw; (try dsimp only at hSw); go_simp; (try with_reducible rfl)
        try simp only [Act.put, List.setIfInBounds_toArray, List.set_cons_zero, List.set_cons_succ]
        refine wpAnyH_take (i := 3) (oi := { dst := some 105, op := Op.move (Operand.tmp 11), type := 3, pos := _, after := #[], guard := none }) (v := ?_) rfl (by kernel_rfl) (by kernel_rfl) (by kernel_rfl) (fun _ _ _ h => h) (Or.inl ⟨by rfl, ?_⟩) (by assumption) ?_
        rotate_left
        · intro w hSw; (try dsimp only at hSw); go_simp; (try with_reducible rfl)
        try simp only [Act.put, List.setIfInBounds_toArray, List.set_cons_zero, List.set_cons_succ]
        refine wpAnyH_take (i := 5) (oi := { dst := some 107, op := Op.move (Operand.tmp 0), type := 34, pos := _, after := #[], guard := none }) (v := ?_) rfl (by kernel_rfl) (by kernel_rfl) (by kernel_rfl) (fun _ _ _ h => h) (Or.inl ⟨by rfl, ?_⟩) (by assumption) ?_
        rotate_left
        · intro w hSw; (try dsimp only at hSw); go_simp; (try with_reducible rfl)
        try simp only [Act.put, List.setIfInBounds_toArray, List.set_cons_zero, List.set_cons_succ]
        refine wpAnyH_take (i := 6) (oi := { dst := some 108, op := Op.move (Operand.tmp 11), type := 3, pos := _, after := #[], guard := none }) (v := ?_) rfl (by kernel_rfl) (by kernel_rfl) (by kernel_rfl) (fun _ _ _ h => h) (Or.inl ⟨by rfl, ?_⟩) (by assumption) ?_
        rotate_left
        · intro w hSw; (try dsimp only at hSw); go_simp; (try with_reducible rfl)
        try simp only [Act.put, List.setIfInBounds_toArray, List.set_cons_zero, List.set_cons_succ]
        refine wpAnyH_take (i := 7) (oi := { dst := some 109, op := Op.binOp BinOp.add 3 (Operand.tmp 108) (Operand.const (Value.int IntKind.i64 2)) 3, type := 3, pos := _, after := #[{ on := 6, ground := Ground.data }], guard := none }) (v := ?_) rfl (by kernel_rfl) (by kernel_rfl) (by kernel_rfl) (fun _ _ _ h => h) (Or.inl ⟨by rfl, ?_⟩) (by assumption) ?_
        rotate_left
        · intro w hSw; (try dsimp only at hSw); go_simp; (try with_reducible rfl)
        try simp only [Act.put, List.setIfInBounds_toArray, List.set_cons_zero, List.set_cons_succ]
        refine wpAnyH_take (i := 8) (oi := { dst := some 110, op := Op.indexAddr 34 (Operand.tmp 107) (Operand.tmp 109), type := 0, pos := _, after := #[{ on := 5, ground := Ground.data }, { on := 7, ground := Ground.data }], guard := none }) (v := ?_) rfl (by kernel_rfl) (by kernel_rfl) (by kernel_rfl) (fun _ _ _ h => h) (Or.inl ⟨by rfl, ?_⟩) (by assumption) ?_
        rotate_left
        · intro w hSw; (try dsimp only at hSw); go_simp; (try with_reducible rfl)
        try simp only [Act.put, List.setIfInBounds_toArray, List.set_cons_zero, List.set_cons_succ]
        refine wpAnyH_take (i := 9) (oi := { dst := some 111, op := Op.load 5 (Operand.tmp 110), type := 5, pos := _, after := #[{ on := 8, ground := Ground.data }], guard := none }) (v := ?_) rfl (by kernel_rfl) (by kernel_rfl) (by kernel_rfl) (fun _ _ _ h => h) (Or.inl ⟨by rfl, ?_⟩) (by assumption) ?_
        rotate_left
        · intro w hSw; (try dsimp only at hSw); go_simp; (try with_reducible rfl)
        try simp only [Act.put, List.setIfInBounds_toArray, List.set_cons_zero, List.set_cons_succ]
        refine wpAnyH_take (i := 10) (oi := { dst := some 112, op := Op.binOp BinOp.and 5 (Operand.tmp 111) (Operand.const (Value.int IntKind.u8 1)) 5, type := 5, pos := _, after := #[{ on := 9, ground := Ground.data }], guard := none }) (v := ?_) rfl (by kernel_rfl) (by kernel_rfl) (by kernel_rfl) (fun _ _ _ h => h) (Or.inl ⟨by rfl, ?_⟩) (by assumption) ?_
        rotate_left
        · intro w hSw; (try dsimp only at hSw); go_simp; (try with_reducible rfl)
        try simp only [Act.put, List.setIfInBounds_toArray, List.set_cons_zero, List.set_cons_succ]
        refine wpAnyH_take (i := 11) (oi := { dst := some 113, op := Op.binOp BinOp.eql 5 (Operand.tmp 112) (Operand.const (Value.int IntKind.u8 1)) 5, type := 4, pos := _, after := #[{ on := 10, ground := Ground.data }], guard := none }) (v := ?_) rfl (by kernel_rfl) (by kernel_rfl) (by kernel_rfl) (fun _ _ _ h => h) (Or.inl ⟨by rfl, ?_⟩) (by assumption) ?_
        rotate_left
        · intro w hSw; (try dsimp only at hSw); go_simp; (try with_reducible rfl)
        try simp only [Act.put, List.setIfInBounds_toArray, List.set_cons_zero, List.set_cons_succ]
        refine wpAnyH_take (i := 12) (oi := { dst := some 114, op := Op.move (Operand.tmp 0), type := 34, pos := _, after := #[], guard := none }) (v := ?_) rfl (by kernel_rfl) (by kernel_rfl) (by kernel_rfl) (fun _ _ _ h => h) (Or.inl ⟨by rfl, ?_⟩) (by assumption) ?_
        rotate_left
        · intro w hSw; (try dsimp only at hSw); go_simp; (try with_reducible rfl)
        try simp only [Act.put, List.setIfInBounds_toArray, List.set_cons_zero, List.set_cons_succ]
        refine wpAnyH_take (i := 13) (oi := { dst := some 115, op := Op.move (Operand.tmp 11), type := 3, pos := _, after := #[], guard := none }) (v := ?_) rfl (by kernel_rfl) (by kernel_rfl) (by kernel_rfl) (fun _ _ _ h => h) (Or.inl ⟨by rfl, ?_⟩) (by assumption) ?_
        rotate_left
        · intro w hSw; (try dsimp only at hSw); go_simp; (try with_reducible rfl)
        try simp only [Act.put, List.setIfInBounds_toArray, List.set_cons_zero, List.set_cons_succ]
        refine wpAnyH_take (i := 14) (oi := { dst := some 116, op := Op.binOp BinOp.add 3 (Operand.tmp 115) (Operand.const (Value.int IntKind.i64 2)) 3, type := 3, pos := _, after := #[{ on := 13, ground := Ground.data }], guard := none }) (v := ?_) rfl (by kernel_rfl) (by kernel_rfl) (by kernel_rfl) (fun _ _ _ h => h) (Or.inl ⟨by rfl, ?_⟩) (by assumption) ?_
        rotate_left
        · intro w hSw; (try dsimp only at hSw); go_simp; (try with_reducible rfl)
        try simp only [Act.put, List.setIfInBounds_toArray, List.set_cons_zero, List.set_cons_succ]
        refine wpAnyH_take (i := 15) (oi := { dst := some 117, op := Op.indexAddr 34 (Operand.tmp 114) (Operand.tmp 116), type := 0, pos := _, after := #[{ on := 12, ground := Ground.data }, { on := 14, ground := Ground.data }], guard := none }) (v := ?_) rfl (by kernel_rfl) (by kernel_rfl) (by kernel_rfl) (fun _ _ _ h => h) (Or.inl ⟨by rfl, ?_⟩) (by assumption) ?_
        rotate_left
        · intro w hSw; (try dsimp only at hSw); go_simp; (try with_reducible rfl)
        try simp only [Act.put, List.setIfInBounds_toArray, List.set_cons_zero, List.set_cons_succ]
        refine wpAnyH_take (i := 16) (oi := { dst := some 118, op := Op.load 5 (Operand.tmp 117), type := 5, pos := _, after := #[{ on := 15, ground := Ground.data }], guard := none }) (v := ?_) rfl (by kernel_rfl) (by kernel_rfl) (by kernel_rfl) (fun _ _ _ h => h) (Or.inl ⟨by rfl, ?_⟩) (by assumption) ?_
        rotate_left
        · intro w hSw; (try dsimp only at hSw); go_simp; (try with_reducible rfl)
        try simp only [Act.put, List.setIfInBounds_toArray, List.set_cons_zero, List.set_cons_succ]
        refine wpAnyH_take (i := 17) (oi := { dst := some 119, op := Op.binOp BinOp.and 5 (Operand.tmp 118) (Operand.const (Value.int IntKind.u8 2)) 5, type := 5, pos := _, after := #[{ on := 16, ground := Ground.data }], guard := none }) (v := ?_) rfl (by kernel_rfl) (by kernel_rfl) (by kernel_rfl) (fun _ _ _ h => h) (Or.inl ⟨by rfl, ?_⟩) (by assumption) ?_
        rotate_left
        · intro w hSw; (try dsimp only at hSw); go_simp; (try with_reducible rfl)
        try simp only [Act.put, List.setIfInBounds_toArray, List.set_cons_zero, List.set_cons_succ]
        refine wpAnyH_take (i := 18) (oi := { dst := some 120, op := Op.binOp BinOp.eql 5 (Operand.tmp 119) (Operand.const (Value.int IntKind.u8 2)) 5, type := 4, pos := _, after := #[{ on := 17, ground := Ground.data }], guard := none }) (v := ?_) rfl (by kernel_rfl) (by kernel_rfl) (by kernel_rfl) (fun _ _ _ h => h) (Or.inl ⟨by rfl, ?_⟩) (by assumption) ?_
        rotate_left
        · intro w hSw; (try dsimp only at hSw); go_simp; (try with_reducible rfl)
        try simp only [Act.put, List.setIfInBounds_toArray, List.set_cons_zero, List.set_cons_succ]
        refine wpAnyH_ready (rs := [1, 4]) (by kernel_rfl) (by simp) ?_
        refine AllReadyH.cons (o := { dst := some 103, op := Op.load 24 (Operand.tmp 102), type := 24, pos := _, after := #[{ on := 0, ground := Ground.data }], guard := none }) rfl (fun K hK => ?_) (AllReadyH.cons (o := { dst := some 106, op := Op.call { callee := Callee.value (Operand.func 59), args := #[Operand.tmp 104, Operand.tmp 105], argTypes := #[34, 3] }, type := 3, pos := _, after := #[{ on := 2, ground := Ground.data }, { on := 3, ground := Ground.data }], guard := none }) rfl (fun K hK => ?_) AllReadyH.nil)
        · skip
          go_simp
          refine hK.out _ _ ?_ (fun hHeld => ?_)
          · first | go_keep | exact d8 | exact d9 | exact (World.cell?_setCell_other _ _ _ _ (by first | exact m9 | exact m9.symm)).trans d9
          clear hK K
          try simp only [Act.put, List.setIfInBounds_toArray, List.set_cons_zero, List.set_cons_succ]
          refine wpAnyH_ready (rs := [4]) (by kernel_rfl) (by simp) ?_
          refine AllReadyH.cons (o := { dst := some 106, op := Op.call { callee := Callee.value (Operand.func 59), args := #[Operand.tmp 104, Operand.tmp 105], argTypes := #[34, 3] }, type := 3, pos := _, after := #[{ on := 2, ground := Ground.data }, { on := 3, ground := Ground.data }], guard := none }) rfl (fun K hK => ?_) AllReadyH.nil
          go_simp
          with_reducible refine (HNM.out _ ?_).mono ?_
          · exact below_drewN S7.out.gw.below 1
          rintro e8 w8 ⟨rfl, hb8⟩
          have T7 := Lib.hid ((S7.out.drewN 1).keep hb8)
          have d8 := rd_byte (HRD.out.later T7.out.gw.below) (k := p + 2) (by omega)
          rw [add_lit a (by omega), HX2.out] at d8
          have k8 : w8.cell? ⟨gc, 3, none⟩ = some (.slice C.AT C.tiles.length C.cT) := T7.out.gw.box.cell 3
          have k8a : (w8.alloc (.cells #[.int .i64 (num2 l p : Int), .bool b1, .bool b2] 60)).cell? ⟨gc, 3, none⟩ = some (.slice C.AT C.tiles.length C.cT) := (T7.out.gw.box.alloc _).cell 3
          refine hK.out _ _ ?_ (fun hHeld => ?_)
          · first | go_keep | exact d8 | exact d9 | exact (World.cell?_setCell_other _ _ _ _ (by first | exact m9 | exact m9.symm)).trans d9
          clear hK K
          try simp only [Act.put, List.setIfInBounds_toArray, List.set_cons_zero, List.set_cons_succ]
          refine wpAnyH_take (i := 19) (oi := { dst := some 121, op := Op.build 60 #[(0, Operand.tmp 106), (1, Operand.tmp 113), (2, Operand.tmp 120)], type := 60, pos := _, after := #[{ on := 4, ground := Ground.data }, { on := 11, ground := Ground.data }, { on := 18, ground := Ground.data }], guard := none }) (v := ?_) rfl (by kernel_rfl) (by kernel_rfl) (by kernel_rfl) (fun _ _ _ h => h) (Or.inl ⟨by rfl, ?_⟩) (by assumption) ?_
          rotate_left
          · intro w hSw; (try dsimp only at hSw); go_simp; (try with_reducible rfl)
          try simp only [Act.put, List.setIfInBounds_toArray, List.set_cons_zero, List.set_cons_succ]
          refine wpAnyH_ready (rs := [20]) (by kernel_rfl) (by simp) ?_
          refine AllReadyH.cons (o := { dst := some 122, op := Op.buildSlice 24 1 #[(0, Operand.tmp 121)], type := 24, pos := _, after := #[{ on := 19, ground := Ground.data }], guard := none }) rfl (fun K hK => ?_) AllReadyH.nil
          go_simp
          refine hK.out _ _ ?_ (fun hHeld => ?_)
          · first | go_keep | exact d8 | exact d9 | exact (World.cell?_setCell_other _ _ _ _ (by first | exact m9 | exact m9.symm)).trans d9
          clear hK K
          try simp only [Act.put, List.setIfInBounds_toArray, List.set_cons_zero, List.set_cons_succ]
          refine wpAnyH_ready (rs := [21]) (by kernel_rfl) (by simp) ?_
          refine AllReadyH.cons (o := { dst := some 123, op := Op.call { callee := Callee.builtin Builtin.append, args := #[Operand.tmp 103, Operand.tmp 122], argTypes := #[24, 24] }, type := 24, pos := _, after := #[{ on := 1, ground := Ground.data }, { on := 20, ground := Ground.data }, { on := 4, ground := Ground.chain }], guard := none }) rfl (fun K hK => ?_) AllReadyH.nil
          have T8 : RG w (w8.alloc (.cells #[.int .i64 (num2 l p : Int), .bool b1, .bool b2] 60)) gc W H T C := T7.out.keep (below_new _ _)
          have T8 := Lib.hid T8
          refine step_append_lies _ (by rfl) (.tmp 103) (.tmp 122) 24 (by rfl) (gc + 1) 60 i0 (.agg #[.int .i64 0, .bool false, .bool false]) 3 16 Try.underlying24 HI0.out HZ0.out HZ1.out HZ2.out rfl (by decide) C.AT' C.tiles.length (tiles3 C.tiles) (by rfl) T8.out.gw.rT ⟨w8.heap.size, 0, none⟩ 1 1 [.int .i64 (num2 l p : Int), .bool b1, .bool b2] (by rfl) rfl (new_cells w8 _ _) (by intro u hu; simp at hu; rcases hu with rfl | rfl | rfl <;> rfl) (by decide) (by unfold maxLen; omega) (by omega) (by have := T8.out.gw.lt; omega) (w8.heap.size + 1) (by simp) ?_
          intro g9 cap9 w9 hown9 hg9 hat9 hlt9
          have B9 := T8.out.gw.grow hg9 (fun g e => own_base T8.out.gw.rT e)
          have k9 : w9.cell? ⟨gc, 3, none⟩ = some (.slice C.AT C.tiles.length C.cT) := B9.2.2.cell 3
          have f9 : w9.frozen? ⟨gc, 3, none⟩ = false := B9.2.2.free 3
          have d9 := rd_byte (HRD.out.later B9.1) (k := p + 2) (by omega)
          rw [add_lit a (by omega), HX2.out] at d9
          have m9 : (⟨gc, 3, none⟩ : Addr) ≠ ⟨a.block, a.off + (p + 2), none⟩ := gc_far0 (k := p + 2) HRD.out T8.out.gw (by omega) _ _
          refine hK.out _ _ ?_ (fun hHeld => ?_)
          · first | go_keep | exact d8 | exact d9 | exact (World.cell?_setCell_other _ _ _ _ (by first | exact m9 | exact m9.symm)).trans d9
          clear hK K
          try simp only [Act.put, List.setIfInBounds_toArray, List.set_cons_zero, List.set_cons_succ]
          refine wpAnyH_take (i := 22) (oi := { dst := some 124, op := Op.fieldAddr 28 (Operand.tmp 10) 1, type := 0, pos := _, after := #[{ on := 0, ground := Ground.phase }, { on := 1, ground := Ground.phase }, { on := 2, ground := Ground.phase }, { on := 3, ground := Ground.phase }, { on := 4, ground := Ground.phase }, { on := 5, ground := Ground.phase }, { on := 6, ground := Ground.phase }, { on := 7, ground := Ground.phase }, { on := 8, ground := Ground.phase }, { on := 9, ground := Ground.phase }, { on := 10, ground := Ground.phase }, { on := 11, ground := Ground.phase }, { on := 12, ground := Ground.phase }, { on := 13, ground := Ground.phase }, { on := 14, ground := Ground.phase }, { on := 15, ground := Ground.phase }, { on := 16, ground := Ground.phase }, { on := 17, ground := Ground.phase }, { on := 18, ground := Ground.phase }, { on := 19, ground := Ground.phase }, { on := 20, ground := Ground.phase }, { on := 21, ground := Ground.phase }], guard := none }) (v := ?_) rfl (by kernel_rfl) (by kernel_rfl) (by kernel_rfl) (fun _ _ _ h => h) (Or.inl ⟨by rfl, ?_⟩) (by assumption) ?_
          rotate_left
          · intro w hSw; (try dsimp only at hSw); go_simp; (try with_reducible rfl)
          try simp only [Act.put, List.setIfInBounds_toArray, List.set_cons_zero, List.set_cons_succ]
          refine wpAnyH_ready (rs := [23]) (by kernel_rfl) (by simp) ?_
          refine AllReadyH.cons (o := { dst := none, op := Op.store 24 (Operand.tmp 124) (Operand.tmp 123), type := 0, pos := _, after := #[{ on := 22, ground := Ground.data }, { on := 21, ground := Ground.data }, { on := 21, ground := Ground.chain }, { on := 0, ground := Ground.phase }, { on := 1, ground := Ground.phase }, { on := 2, ground := Ground.phase }, { on := 3, ground := Ground.phase }, { on := 4, ground := Ground.phase }, { on := 5, ground := Ground.phase }, { on := 6, ground := Ground.phase }, { on := 7, ground := Ground.phase }, { on := 8, ground := Ground.phase }, { on := 9, ground := Ground.phase }, { on := 10, ground := Ground.phase }, { on := 11, ground := Ground.phase }, { on := 12, ground := Ground.phase }, { on := 13, ground := Ground.phase }, { on := 14, ground := Ground.phase }, { on := 15, ground := Ground.phase }, { on := 16, ground := Ground.phase }, { on := 17, ground := Ground.phase }, { on := 18, ground := Ground.phase }, { on := 19, ground := Ground.phase }, { on := 20, ground := Ground.phase }, { on := 21, ground := Ground.phase }], guard := none }) rfl (fun K hK => ?_) AllReadyH.nil
          go_simp
          refine hK.out _ _ ?_ (fun hHeld => ?_)
          · first | go_keep | exact d8 | exact d9 | exact (World.cell?_setCell_other _ _ _ _ (by first | exact m9 | exact m9.symm)).trans d9
          clear hK K
          try simp only [Act.put, List.setIfInBounds_toArray, List.set_cons_zero, List.set_cons_succ]
          refine wpAnyH_done (by kernel_rfl) ?_ _
          have T10 := T8.out.setT (t := ((num2 l p : Int), b1, b2)) hg9 rfl (by rw [tiles3_snoc]; exact hown9)
          generalize w9.setCell ⟨gc, 3, none⟩ (.slice (some ⟨g9, 0, none⟩) (C.tiles.length + 1) cap9) = w10 at T10 ⊢
          have T10 := Lib.hid T10
          clear T8 hg9 hown9 hat9 hlt9 d9 T7 d2 n2 n3 k3 k8 f3 f9 k9 B9 m9 HNM hHeld
          go_wp2_with fail
          go_roundw
          case rel =>
            refine ⟨k + 1, _, by omega, by rw [← HPP.out]; go_num, by go_num, HOD.out, ?_, ?_, T10.out⟩
            · rw [HTN.out, ← HCT.out]
            · exact HTR.out
          case measure => simp [intOf]; omega
        · skip
          go_simp
          with_reducible refine (HNM.out _ ?_).mono ?_
          · exact below_drewN S7.out.gw.below 1
          rintro e8 w8 ⟨rfl, hb8⟩
          have T7 := Lib.hid ((S7.out.drewN 1).keep hb8)
          have d8 := rd_byte (HRD.out.later T7.out.gw.below) (k := p + 2) (by omega)
          rw [add_lit a (by omega), HX2.out] at d8
          have k8 : w8.cell? ⟨gc, 3, none⟩ = some (.slice C.AT C.tiles.length C.cT) := T7.out.gw.box.cell 3
          have k8a : (w8.alloc (.cells #[.int .i64 (num2 l p : Int), .bool b1, .bool b2] 60)).cell? ⟨gc, 3, none⟩ = some (.slice C.AT C.tiles.length C.cT) := (T7.out.gw.box.alloc _).cell 3
          refine hK.out _ _ ?_ (fun hHeld => ?_)
          · first | go_keep | exact d8 | exact d9 | exact (World.cell?_setCell_other _ _ _ _ (by first | exact m9 | exact m9.symm)).trans d9
          clear hK K
          try simp only [Act.put, List.setIfInBounds_toArray, List.set_cons_zero, List.set_cons_succ]
          refine wpAnyH_take (i := 19) (oi := { dst := some 121, op := Op.build 60 #[(0, Operand.tmp 106), (1, Operand.tmp 113), (2, Operand.tmp 120)], type := 60, pos := _, after := #[{ on := 4, ground := Ground.data }, { on := 11, ground := Ground.data }, { on := 18, ground := Ground.data }], guard := none }) (v := ?_) rfl (by kernel_rfl) (by kernel_rfl) (by kernel_rfl) (fun _ _ _ h => h) (Or.inl ⟨by rfl, ?_⟩) (by assumption) ?_
          rotate_left
          · intro w hSw; (try dsimp only at hSw); go_simp; (try with_reducible rfl)
          try simp only [Act.put, List.setIfInBounds_toArray, List.set_cons_zero, List.set_cons_succ]
          refine wpAnyH_ready (rs := [1, 20]) (by kernel_rfl) (by simp) ?_
          refine AllReadyH.cons (o := { dst := some 103, op := Op.load 24 (Operand.tmp 102), type := 24, pos := _, after := #[{ on := 0, ground := Ground.data }], guard := none }) rfl (fun K hK => ?_) (AllReadyH.cons (o := { dst := some 122, op := Op.buildSlice 24 1 #[(0, Operand.tmp 121)], type := 24, pos := _, after := #[{ on := 19, ground := Ground.data }], guard := none }) rfl (fun K hK => ?_) AllReadyH.nil)
          · skip
            go_simp
            refine hK.out _ _ ?_ (fun hHeld => ?_)
            · first | go_keep | exact d8 | exact d9 | exact (World.cell?_setCell_other _ _ _ _ (by first | exact m9 | exact m9.symm)).trans d9
            clear hK K
            try simp only [Act.put, List.setIfInBounds_toArray, List.set_cons_zero, List.set_cons_succ]
            refine wpAnyH_ready (rs := [20]) (by kernel_rfl) (by simp) ?_
            refine AllReadyH.cons (o := { dst := some 122, op := Op.buildSlice 24 1 #[(0, Operand.tmp 121)], type := 24, pos := _, after := #[{ on := 19, ground := Ground.data }], guard := none }) rfl (fun K hK => ?_) AllReadyH.nil
            go_simp
            refine hK.out _ _ ?_ (fun hHeld => ?_)
            · first | go_keep | exact d8 | exact d9 | exact (World.cell?_setCell_other _ _ _ _ (by first | exact m9 | exact m9.symm)).trans d9
            clear hK K
            try simp only [Act.put, List.setIfInBounds_toArray, List.set_cons_zero, List.set_cons_succ]
            refine wpAnyH_ready (rs := [21]) (by kernel_rfl) (by simp) ?_
            refine AllReadyH.cons (o := { dst := some 123, op := Op.call { callee := Callee.builtin Builtin.append, args := #[Operand.tmp 103, Operand.tmp 122], argTypes := #[24, 24] }, type := 24, pos := _, after := #[{ on := 1, ground := Ground.data }, { on := 20, ground := Ground.data }, { on := 4, ground := Ground.chain }], guard := none }) rfl (fun K hK => ?_) AllReadyH.nil
            have T8 : RG w (w8.alloc (.cells #[.int .i64 (num2 l p : Int), .bool b1, .bool b2] 60)) gc W H T C := T7.out.keep (below_new _ _)
            have T8 := Lib.hid T8
            refine step_append_lies _ (by rfl) (.tmp 103) (.tmp 122) 24 (by rfl) (gc + 1) 60 i0 (.agg #[.int .i64 0, .bool false, .bool false]) 3 16 Try.underlying24 HI0.out HZ0.out HZ1.out HZ2.out rfl (by decide) C.AT' C.tiles.length (tiles3 C.tiles) (by rfl) T8.out.gw.rT ⟨w8.heap.size, 0, none⟩ 1 1 [.int .i64 (num2 l p : Int), .bool b1, .bool b2] (by rfl) rfl (new_cells w8 _ _) (by intro u hu; simp at hu; rcases hu with rfl | rfl | rfl <;> rfl) (by decide) (by unfold maxLen; omega) (by omega) (by have := T8.out.gw.lt; omega) (w8.heap.size + 1) (by simp) ?_
            intro g9 cap9 w9 hown9 hg9 hat9 hlt9
            have B9 := T8.out.gw.grow hg9 (fun g e => own_base T8.out.gw.rT e)
            have k9 : w9.cell? ⟨gc, 3, none⟩ = some (.slice C.AT C.tiles.length C.cT) := B9.2.2.cell 3
            have f9 : w9.frozen? ⟨gc, 3, none⟩ = false := B9.2.2.free 3
            have d9 := rd_byte (HRD.out.later B9.1) (k := p + 2) (by omega)
            rw [add_lit a (by omega), HX2.out] at d9
            have m9 : (⟨gc, 3, none⟩ : Addr) ≠ ⟨a.block, a.off + (p + 2), none⟩ := gc_far0 (k := p + 2) HRD.out T8.out.gw (by omega) _ _
            refine hK.out _ _ ?_ (fun hHeld => ?_)
            · first | go_keep | exact d8 | exact d9 | exact (World.cell?_setCell_other _ _ _ _ (by first | exact m9 | exact m9.symm)).trans d9
            clear hK K
            try simp only [Act.put, List.setIfInBounds_toArray, List.set_cons_zero, List.set_cons_succ]
            refine wpAnyH_take (i := 22) (oi := { dst := some 124, op := Op.fieldAddr 28 (Operand.tmp 10) 1, type := 0, pos := _, after := #[{ on := 0, ground := Ground.phase }, { on := 1, ground := Ground.phase }, { on := 2, ground := Ground.phase }, { on := 3, ground := Ground.phase }, { on := 4, ground := Ground.phase }, { on := 5, ground := Ground.phase }, { on := 6, ground := Ground.phase }, { on := 7, ground := Ground.phase }, { on := 8, ground := Ground.phase }, { on := 9, ground := Ground.phase }, { on := 10, ground := Ground.phase }, { on := 11, ground := Ground.phase }, { on := 12, ground := Ground.phase }, { on := 13, ground := Ground.phase }, { on := 14, ground := Ground.phase }, { on := 15, ground := Ground.phase }, { on := 16, ground := Ground.phase }, { on := 17, ground := Ground.phase }, { on := 18, ground := Ground.phase }, { on := 19, ground := Ground.phase }, { on := 20, ground := Ground.phase }, { on := 21, ground := Ground.phase }], guard := none }) (v := ?_) rfl (by kernel_rfl) (by kernel_rfl) (by kernel_rfl) (fun _ _ _ h => h) (Or.inl ⟨by rfl, ?_⟩) (by assumption) ?_
            rotate_left
            · intro w hSw; (try dsimp only at hSw); go_simp; (try with_reducible rfl)
            try simp only [Act.put, List.setIfInBounds_toArray, List.set_cons_zero, List.set_cons_succ]
            refine wpAnyH_ready (rs := [23]) (by kernel_rfl) (by simp) ?_
            refine AllReadyH.cons (o := { dst := none, op := Op.store 24 (Operand.tmp 124) (Operand.tmp 123), type := 0, pos := _, after := #[{ on := 22, ground := Ground.data }, { on := 21, ground := Ground.data }, { on := 21, ground := Ground.chain }, { on := 0, ground := Ground.phase }, { on := 1, ground := Ground.phase }, { on := 2, ground := Ground.phase }, { on := 3, ground := Ground.phase }, { on := 4, ground := Ground.phase }, { on := 5, ground := Ground.phase }, { on := 6, ground := Ground.phase }, { on := 7, ground := Ground.phase }, { on := 8, ground := Ground.phase }, { on := 9, ground := Ground.phase }, { on := 10, ground := Ground.phase }, { on := 11, ground := Ground.phase }, { on := 12, ground := Ground.phase }, { on := 13, ground := Ground.phase }, { on := 14, ground := Ground.phase }, { on := 15, ground := Ground.phase }, { on := 16, ground := Ground.phase }, { on := 17, ground := Ground.phase }, { on := 18, ground := Ground.phase }, { on := 19, ground := Ground.phase }, { on := 20, ground := Ground.phase }, { on := 21, ground := Ground.phase }], guard := none }) rfl (fun K hK => ?_) AllReadyH.nil
            go_simp
            refine hK.out _ _ ?_ (fun hHeld => ?_)
            · first | go_keep | exact d8 | exact d9 | exact (World.cell?_setCell_other _ _ _ _ (by first | exact m9 | exact m9.symm)).trans d9
            clear hK K
            try simp only [Act.put, List.setIfInBounds_toArray, List.set_cons_zero, List.set_cons_succ]
            refine wpAnyH_done (by kernel_rfl) ?_ _
            have T10 := T8.out.setT (t := ((num2 l p : Int), b1, b2)) hg9 rfl (by rw [tiles3_snoc]; exact hown9)
            generalize w9.setCell ⟨gc, 3, none⟩ (.slice (some ⟨g9, 0, none⟩) (C.tiles.length + 1) cap9) = w10 at T10 ⊢
            have T10 := Lib.hid T10
            clear T8 hg9 hown9 hat9 hlt9 d9 T7 d2 n2 n3 k3 k8 f3 f9 k9 B9 m9 HNM hHeld
            go_wp2_with fail
            go_roundw
            case rel =>
              refine ⟨k + 1, _, by omega, by rw [← HPP.out]; go_num, by go_num, HOD.out, ?_, ?_, T10.out⟩
              · rw [HTN.out, ← HCT.out]
              · exact HTR.out
            case measure => simp [intOf]; omega
          · skip
            go_simp
            refine hK.out _ _ ?_ (fun hHeld => ?_)
            · first | go_keep | exact d8 | exact d9 | exact (World.cell?_setCell_other _ _ _ _ (by first | exact m9 | exact m9.symm)).trans d9
            clear hK K
            try simp only [Act.put, List.setIfInBounds_toArray, List.set_cons_zero, List.set_cons_succ]
            refine wpAnyH_ready (rs := [1]) (by kernel_rfl) (by simp) ?_
            refine AllReadyH.cons (o := { dst := some 103, op := Op.load 24 (Operand.tmp 102), type := 24, pos := _, after := #[{ on := 0, ground := Ground.data }], guard := none }) rfl (fun K hK => ?_) AllReadyH.nil
            go_simp
            refine hK.out _ _ ?_ (fun hHeld => ?_)
            · first | go_keep | exact d8 | exact d9 | exact (World.cell?_setCell_other _ _ _ _ (by first | exact m9 | exact m9.symm)).trans d9
            clear hK K
            try simp only [Act.put, List.setIfInBounds_toArray, List.set_cons_zero, List.set_cons_succ]
            refine wpAnyH_ready (rs := [21]) (by kernel_rfl) (by simp) ?_
            refine AllReadyH.cons (o := { dst := some 123, op := Op.call { callee := Callee.builtin Builtin.append, args := #[Operand.tmp 103, Operand.tmp 122], argTypes := #[24, 24] }, type := 24, pos := _, after := #[{ on := 1, ground := Ground.data }, { on := 20, ground := Ground.data }, { on := 4, ground := Ground.chain }], guard := none }) rfl (fun K hK => ?_) AllReadyH.nil
            have T8 : RG w (w8.alloc (.cells #[.int .i64 (num2 l p : Int), .bool b1, .bool b2] 60)) gc W H T C := T7.out.keep (below_new _ _)
            have T8 := Lib.hid T8
            refine step_append_lies _ (by rfl) (.tmp 103) (.tmp 122) 24 (by rfl) (gc + 1) 60 i0 (.agg #[.int .i64 0, .bool false, .bool false]) 3 16 Try.underlying24 HI0.out HZ0.out HZ1.out HZ2.out rfl (by decide) C.AT' C.tiles.length (tiles3 C.tiles) (by rfl) T8.out.gw.rT ⟨w8.heap.size, 0, none⟩ 1 1 [.int .i64 (num2 l p : Int), .bool b1, .bool b2] (by rfl) rfl (new_cells w8 _ _) (by intro u hu; simp at hu; rcases hu with rfl | rfl | rfl <;> rfl) (by decide) (by unfold maxLen; omega) (by omega) (by have := T8.out.gw.lt; omega) (w8.heap.size + 1) (by simp) ?_
            intro g9 cap9 w9 hown9 hg9 hat9 hlt9
            have B9 := T8.out.gw.grow hg9 (fun g e => own_base T8.out.gw.rT e)
            have k9 : w9.cell? ⟨gc, 3, none⟩ = some (.slice C.AT C.tiles.length C.cT) := B9.2.2.cell 3
            have f9 : w9.frozen? ⟨gc, 3, none⟩ = false := B9.2.2.free 3
            have d9 := rd_byte (HRD.out.later B9.1) (k := p + 2) (by omega)
            rw [add_lit a (by omega), HX2.out] at d9
            have m9 : (⟨gc, 3, none⟩ : Addr) ≠ ⟨a.block, a.off + (p + 2), none⟩ := gc_far0 (k := p + 2) HRD.out T8.out.gw (by omega) _ _
            refine hK.out _ _ ?_ (fun hHeld => ?_)
            · first | go_keep | exact d8 | exact d9 | exact (World.cell?_setCell_other _ _ _ _ (by first | exact m9 | exact m9.symm)).trans d9
            clear hK K
            try simp only [Act.put, List.setIfInBounds_toArray, List.set_cons_zero, List.set_cons_succ]
            refine wpAnyH_take (i := 22) (oi := { dst := some 124, op := Op.fieldAddr 28 (Operand.tmp 10) 1, type := 0, pos := _, after := #[{ on := 0, ground := Ground.phase }, { on := 1, ground := Ground.phase }, { on := 2, ground := Ground.phase }, { on := 3, ground := Ground.phase }, { on := 4, ground := Ground.phase }, { on := 5, ground := Ground.phase }, { on := 6, ground := Ground.phase }, { on := 7, ground := Ground.phase }, { on := 8, ground := Ground.phase }, { on := 9, ground := Ground.phase }, { on := 10, ground := Ground.phase }, { on := 11, ground := Ground.phase }, { on := 12, ground := Ground.phase }, { on := 13, ground := Ground.phase }, { on := 14, ground := Ground.phase }, { on := 15, ground := Ground.phase }, { on := 16, ground := Ground.phase }, { on := 17, ground := Ground.phase }, { on := 18, ground := Ground.phase }, { on := 19, ground := Ground.phase }, { on := 20, ground := Ground.phase }, { on := 21, ground := Ground.phase }], guard := none }) (v := ?_) rfl (by kernel_rfl) (by kernel_rfl) (by kernel_rfl) (fun _ _ _ h => h) (Or.inl ⟨by rfl, ?_⟩) (by assumption) ?_
            rotate_left
            · intro w hSw; (try dsimp only at hSw); go_simp; (try with_reducible rfl)
            try simp only [Act.put, List.setIfInBounds_toArray, List.set_cons_zero, List.set_cons_succ]
            refine wpAnyH_ready (rs := [23]) (by kernel_rfl) (by simp) ?_
            refine AllReadyH.cons (o := { dst := none, op := Op.store 24 (Operand.tmp 124) (Operand.tmp 123), type := 0, pos := _, after := #[{ on := 22, ground := Ground.data }, { on := 21, ground := Ground.data }, { on := 21, ground := Ground.chain }, { on := 0, ground := Ground.phase }, { on := 1, ground := Ground.phase }, { on := 2, ground := Ground.phase }, { on := 3, ground := Ground.phase }, { on := 4, ground := Ground.phase }, { on := 5, ground := Ground.phase }, { on := 6, ground := Ground.phase }, { on := 7, ground := Ground.phase }, { on := 8, ground := Ground.phase }, { on := 9, ground := Ground.phase }, { on := 10, ground := Ground.phase }, { on := 11, ground := Ground.phase }, { on := 12, ground := Ground.phase }, { on := 13, ground := Ground.phase }, { on := 14, ground := Ground.phase }, { on := 15, ground := Ground.phase }, { on := 16, ground := Ground.phase }, { on := 17, ground := Ground.phase }, { on := 18, ground := Ground.phase }, { on := 19, ground := Ground.phase }, { on := 20, ground := Ground.phase }, { on := 21, ground := Ground.phase }], guard := none }) rfl (fun K hK => ?_) AllReadyH.nil
            go_simp
            refine hK.out _ _ ?_ (fun hHeld => ?_)
            · first | go_keep | exact d8 | exact d9 | exact (World.cell?_setCell_other _ _ _ _ (by first | exact m9 | exact m9.symm)).trans d9
            clear hK K
            try simp only [Act.put, List.setIfInBounds_toArray, List.set_cons_zero, List.set_cons_succ]
            refine wpAnyH_done (by kernel_rfl) ?_ _
            have T10 := T8.out.setT (t := ((num2 l p : Int), b1, b2)) hg9 rfl (by rw [tiles3_snoc]; exact hown9)
            generalize w9.setCell ⟨gc, 3, none⟩ (.slice (some ⟨g9, 0, none⟩) (C.tiles.length + 1) cap9) = w10 at T10 ⊢
            have T10 := Lib.hid T10
            clear T8 hg9 hown9 hat9 hlt9 d9 T7 d2 n2 n3 k3 k8 f3 f9 k9 B9 m9 HNM hHeld
            go_wp2_with fail
            go_roundw
            case rel =>
              refine ⟨k + 1, _, by omega, by rw [← HPP.out]; go_num, by go_num, HOD.out, ?_, ?_, T10.out⟩
              · rw [HTN.out, ← HCT.out]
              · exact HTR.out
            case measure => simp [intOf]; omega
    · obtain rfl : k = nt := by omega
      have htd : C.tiles = decT l := by rw [HCT.out]; unfold decT; rw [HNT.out]
      have HTD := Lib.hid htd
      have htr2 := TR2.of HTR.out
      have hpS : atS l = p := by unfold atS; rw [HNT.out]; exact HPP.out
      have HPS := Lib.hid hpS
      have hpe : p + (N + 7) / 8 + 2 * (ni + nu) ≤ e := by have := HSZ.out; have := HPP.out; omega
      have HON0 : Hid (C.on = []) := Lib.hid htr2.2.2.2.1
      have HTR2 := Lib.hid htr2.1
      clear htd htr2 hpS HCT HTR
      rw [HPS.out] at HX0
      go_wp2_with fail
      go_loopw [13] (fun i wx => ∃ (q : Nat) (C : Cfg), q ≤ N ∧ i = .int .i64 (q : Int) ∧ C.tiles = decT l ∧ C.on = bitsAt l p q ∧ TR2 C W H T ∧ RG w wx gc W H T C) (fun i _ => N - (intOf i).toNat)
      case atStart => exact ⟨0, C, by omega, rfl, HTD.out, by rw [HON0.out]; rfl, HTR2.out, S7.out⟩
      case round =>
        clear S7 HON0 HTD HTR2 k0 k1 k2 C
        obtain ⟨q, C, hq, rfl, htd, hon, htr, hs⟩ := hrel
        have HTD := Lib.hid htd
        have HON := Lib.hid hon
        have HTR := Lib.hid htr
        have S7 := Lib.hid hs
        clear htd hon htr hs
        by_cases hlt : q < N
        · obtain ⟨d, hd⟩ : ∃ d, q / 8 = d := ⟨_, rfl⟩
          obtain ⟨r, hrr⟩ : ∃ r, q % 8 = r := ⟨_, rfl⟩
          have hr8 : r < 8 := by omega
          have hdN : p + d < n := by omega
          have hq1 : (q : Int).tdiv 8 = (d : Int) := by rw [Int.tdiv_eq_ediv_of_nonneg (by omega)]; omega
          have hq2 : (q : Int).tmod 8 = (r : Int) := by rw [Int.tmod_eq_emod_of_nonneg (by omega)]; omega
          have hq3 : (q : Int) / 8 = (d : Int) := by omega
          have hq4 : (q : Int) % 8 = (r : Int) := by omega
          have hq5 : IntKind.i64.wrap ((p : Int) + (d : Int)) = (p : Int) + (d : Int) := IntWalk.i64_in _ (by omega)
          have hq6 : (0 : Int) ≤ (p : Int) + (d : Int) := by omega
          have hq9 : IntKind.i64.wrap (d : Int) = (d : Int) := IntWalk.i64_in _ (by omega)
          have hq10 : IntKind.i64.wrap (r : Int) = (r : Int) := IntWalk.i64_in _ (by omega)
          have hq11 : IntKind.u64.wrap (r : Int) = (r : Int) := by
            have h1 : (r : Int) % 18446744073709551616 = (r : Int) := by omega
            simpa [IntKind.wrap, IntKind.bits, IntKind.signed] using h1
          have hq7 : (p : Int) + (d : Int) < (n : Int) := by omega
          have hq8 : ((p : Int) + (d : Int)).toNat = p + d := by omega
          have d2 := rd_byte (HRD.out.later S7.out.gw.below) (k := p + d) (by omega)
          have hx2 := getD_lt HL.out (p + d)
          have hbx := bitsAt_next l p q
          rw [hd, hrr] at hbx
          obtain ⟨x2, hx2e⟩ : ∃ x2, l.getD (p + d) 0 = x2 := ⟨_, rfl⟩
          rw [hx2e] at d2 hx2 hbx
          have HX2 := Lib.hid hx2e
          obtain ⟨b1, hb1⟩ : ∃ b1, decide (x2 / 2 ^ r % 2 = 1) = b1 := ⟨_, rfl⟩
          rw [hb1] at hbx
          have HBX := Lib.hid hbx
          have hbit : (bits .and .u8 ((x2 : Int) / 2 ^ r) 1 == 1) = b1 := by
            have h0 : x2 / 2 ^ r < 256 := Nat.lt_of_le_of_lt (Nat.div_le_self _ _) hx2
            have h1 : ((x2 : Int) / 2 ^ r) = ((x2 / 2 ^ r : Nat) : Int) := by rw [Int.natCast_ediv, Int.natCast_pow]; rfl
            rw [h1, and1_u8 _ h0, bit_eq, hb1]
          have k3 : wr.cell? ⟨gc, 4, none⟩ = some (.slice C.AO C.on.length C.cO) := S7.out.gw.box.cell 4
          have f3 := S7.out.gw.box.free 4
          have k8 : (wr.alloc (.cells #[.bool b1] 4)).cell? ⟨gc, 4, none⟩ = some (.slice C.AO C.on.length C.cO) := (S7.out.gw.box.alloc _).cell 4
          have hol : C.on.length ≤ 6000000 := by rw [HON.out, bitsAt_len]; omega
          obtain ⟨i0, hi0, hz0, hz1, hz2⟩ := info_parts rbool_info
          have HI0 := Lib.hid hi0
          have HZ0 := Lib.hid hz0
          have HZ1 := Lib.hid hz1
          have HZ2 := Lib.hid hz2
          clear hi0 hz0 hz1 hz2 hx2e hb1 hbx hd hrr
          go_wp2_with fail
          refine wp_region_held_drew (S := (fun w2 => w2.cell? (a.add (p + d)) = some (.int .u8 (x2 : Int)))) (by kernel_rfl) ?_ (fun hHeld => ?_)
          · first | go_keep | exact d9 | exact (World.cell?_setCell_other _ _ _ _ (by first | exact m9 | exact m9.symm)).trans d9
          refine wpAnyH_take (i := 0) (oi := { dst := some 132, op := Op.fieldAddr 28 (Operand.tmp 10) 2, type := 0, pos := _, after := #[], guard := none }) (v := ?_) rfl (by kernel_rfl) (by kernel_rfl) (by kernel_rfl) (fun _ _ _ h => h) (Or.inl ⟨by rfl, ?_⟩) (by assumption) ?_
          rotate_left
          · intro w hSw; (try dsimp only at hSw); go_simp; (try with_reducible rfl)
          try simp only [Act.put, List.setIfInBounds_toArray, List.set_cons_zero, List.set_cons_succ]
          refine wpAnyH_take (i := 2) (oi := { dst := some 134, op := Op.move (Operand.tmp 0), type := 34, pos := _, after := #[], guard := none }) (v := ?_) rfl (by kernel_rfl) (by kernel_rfl) (by kernel_rfl) (fun _ _ _ h => h) (Or.inl ⟨by rfl, ?_⟩) (by assumption) ?_
          rotate_left
          · intro w hSw; (try dsimp only at hSw); go_simp; (try with_reducible rfl)
          try simp only [Act.put, List.setIfInBounds_toArray, List.set_cons_zero, List.set_cons_succ]
          refine wpAnyH_take (i := 3) (oi := { dst := some 135, op := Op.move (Operand.tmp 11), type := 3, pos := _, after := #[], guard := none }) (v := ?_) rfl (by kernel_rfl) (by kernel_rfl) (by kernel_rfl) (fun _ _ _ h => h) (Or.inl ⟨by rfl, ?_⟩) (by assumption) ?_
          rotate_left
          · intro w hSw; (try dsimp only at hSw); go_simp; (try with_reducible rfl)
          try simp only [Act.put, List.setIfInBounds_toArray, List.set_cons_zero, List.set_cons_succ]
          refine wpAnyH_take (i := 4) (oi := { dst := some 136, op := Op.move (Operand.tmp 13), type := 3, pos := _, after := #[], guard := none }) (v := ?_) rfl (by kernel_rfl) (by kernel_rfl) (by kernel_rfl) (fun _ _ _ h => h) (Or.inl ⟨by rfl, ?_⟩) (by assumption) ?_
          rotate_left
          · intro w hSw; (try dsimp only at hSw); go_simp; (try with_reducible rfl)
          try simp only [Act.put, List.setIfInBounds_toArray, List.set_cons_zero, List.set_cons_succ]
          refine wpAnyH_take (i := 5) (oi := { dst := some 137, op := Op.binOp BinOp.quo 3 (Operand.tmp 136) (Operand.const (Value.int IntKind.i64 8)) 3, type := 3, pos := _, after := #[{ on := 4, ground := Ground.data }], guard := none }) (v := ?_) rfl (by kernel_rfl) (by kernel_rfl) (by kernel_rfl) (fun _ _ _ h => h) (Or.inl ⟨by rfl, ?_⟩) (by assumption) ?_
          rotate_left
          · intro w hSw; (try dsimp only at hSw); go_simp; (try with_reducible rfl)
          try simp only [Act.put, List.setIfInBounds_toArray, List.set_cons_zero, List.set_cons_succ]
          refine wpAnyH_take (i := 6) (oi := { dst := some 138, op := Op.binOp BinOp.add 3 (Operand.tmp 135) (Operand.tmp 137) 3, type := 3, pos := _, after := #[{ on := 3, ground := Ground.data }, { on := 5, ground := Ground.data }], guard := none }) (v := ?_) rfl (by kernel_rfl) (by kernel_rfl) (by kernel_rfl) (fun _ _ _ h => h) (Or.inl ⟨by rfl, ?_⟩) (by assumption) ?_
          rotate_left
          · intro w hSw; (try dsimp only at hSw); go_simp; (try with_reducible rfl)
          try simp only [Act.put, List.setIfInBounds_toArray, List.set_cons_zero, List.set_cons_succ]
          refine wpAnyH_take (i := 7) (oi := { dst := some 139, op := Op.indexAddr 34 (Operand.tmp 134) (Operand.tmp 138), type := 0, pos := _, after := #[{ on := 2, ground := Ground.data }, { on := 6, ground := Ground.data }], guard := none }) (v := ?_) rfl (by kernel_rfl) (by kernel_rfl) (by kernel_rfl) (fun _ _ _ h => h) (Or.inl ⟨by rfl, ?_⟩) (by assumption) ?_
          rotate_left
          · intro w hSw; (try dsimp only at hSw); go_simp; (try with_reducible rfl)
          try simp only [Act.put, List.setIfInBounds_toArray, List.set_cons_zero, List.set_cons_succ]
          refine wpAnyH_take (i := 8) (oi := { dst := some 140, op := Op.load 5 (Operand.tmp 139), type := 5, pos := _, after := #[{ on := 7, ground := Ground.data }], guard := none }) (v := ?_) rfl (by kernel_rfl) (by kernel_rfl) (by kernel_rfl) (fun _ _ _ h => h) (Or.inl ⟨by rfl, ?_⟩) (by assumption) ?_
          rotate_left
          · intro w hSw; (try dsimp only at hSw); go_simp; (try with_reducible rfl)
          try simp only [Act.put, List.setIfInBounds_toArray, List.set_cons_zero, List.set_cons_succ]
          refine wpAnyH_take (i := 9) (oi := { dst := some 141, op := Op.move (Operand.tmp 13), type := 3, pos := _, after := #[], guard := none }) (v := ?_) rfl (by kernel_rfl) (by kernel_rfl) (by kernel_rfl) (fun _ _ _ h => h) (Or.inl ⟨by rfl, ?_⟩) (by assumption) ?_
          rotate_left
          · intro w hSw; (try dsimp only at hSw); go_simp; (try with_reducible rfl)
          try simp only [Act.put, List.setIfInBounds_toArray, List.set_cons_zero, List.set_cons_succ]
          refine wpAnyH_take (i := 10) (oi := { dst := some 142, op := Op.binOp BinOp.rem 3 (Operand.tmp 141) (Operand.const (Value.int IntKind.i64 8)) 3, type := 3, pos := _, after := #[{ on := 9, ground := Ground.data }], guard := none }) (v := ?_) rfl (by kernel_rfl) (by kernel_rfl) (by kernel_rfl) (fun _ _ _ h => h) (Or.inl ⟨by rfl, ?_⟩) (by assumption) ?_
          rotate_left
          · intro w hSw; (try dsimp only at hSw); go_simp; (try with_reducible rfl)
          try simp only [Act.put, List.setIfInBounds_toArray, List.set_cons_zero, List.set_cons_succ]
          refine wpAnyH_take (i := 11) (oi := { dst := some 143, op := Op.convert 3 90 (Operand.tmp 142), type := 90, pos := _, after := #[{ on := 10, ground := Ground.data }], guard := none }) (v := ?_) rfl (by kernel_rfl) (by kernel_rfl) (by kernel_rfl) (fun _ _ _ h => h) (Or.inl ⟨by rfl, ?_⟩) (by assumption) ?_
          rotate_left
          · intro w hSw; (try dsimp only at hSw); go_simp; (try with_reducible rfl)
          try simp only [Act.put, List.setIfInBounds_toArray, List.set_cons_zero, List.set_cons_succ]
          refine wpAnyH_take (i := 12) (oi := { dst := some 144, op := Op.binOp BinOp.shr 5 (Operand.tmp 140) (Operand.tmp 143) 90, type := 5, pos := _, after := #[{ on := 8, ground := Ground.data }, { on := 11, ground := Ground.data }], guard := none }) (v := ?_) rfl (by kernel_rfl) (by kernel_rfl) (by kernel_rfl) (fun _ _ _ h => h) (Or.inl ⟨by rfl, ?_⟩) (by assumption) ?_
          rotate_left
          · intro w hSw; (try dsimp only at hSw); go_simp; (try with_reducible rfl)
          try simp only [Act.put, List.setIfInBounds_toArray, List.set_cons_zero, List.set_cons_succ]
          refine wpAnyH_take (i := 13) (oi := { dst := some 145, op := Op.binOp BinOp.and 5 (Operand.tmp 144) (Operand.const (Value.int IntKind.u8 1)) 5, type := 5, pos := _, after := #[{ on := 12, ground := Ground.data }], guard := none }) (v := ?_) rfl (by kernel_rfl) (by kernel_rfl) (by kernel_rfl) (fun _ _ _ h => h) (Or.inl ⟨by rfl, ?_⟩) (by assumption) ?_
          rotate_left
          · intro w hSw; (try dsimp only at hSw); go_simp; (try with_reducible rfl)
          try simp only [Act.put, List.setIfInBounds_toArray, List.set_cons_zero, List.set_cons_succ]
          refine wpAnyH_take (i := 14) (oi := { dst := some 146, op := Op.binOp BinOp.eql 5 (Operand.tmp 145) (Operand.const (Value.int IntKind.u8 1)) 5, type := 4, pos := _, after := #[{ on := 13, ground := Ground.data }], guard := none }) (v := ?_) rfl (by kernel_rfl) (by kernel_rfl) (by kernel_rfl) (fun _ _ _ h => h) (Or.inl ⟨by rfl, ?_⟩) (by assumption) ?_
          rotate_left
          · intro w hSw; (try dsimp only at hSw); go_simp; (try with_reducible rfl)
          try simp only [Act.put, List.setIfInBounds_toArray, List.set_cons_zero, List.set_cons_succ]
          refine wpAnyH_ready (rs := [1, 15]) (by kernel_rfl) (by simp) ?_
          refine AllReadyH.cons (o := { dst := some 133, op := Op.load 25 (Operand.tmp 132), type := 25, pos := _, after := #[{ on := 0, ground := Ground.data }], guard := none }) rfl (fun K hK => ?_) (AllReadyH.cons (o := { dst := some 147, op := Op.buildSlice 25 1 #[(0, Operand.tmp 146)], type := 25, pos := _, after := #[{ on := 14, ground := Ground.data }], guard := none }) rfl (fun K hK => ?_) AllReadyH.nil)
          · skip
            go_simp
            refine hK.out _ _ ?_ (fun hHeld => ?_)
            · first | go_keep | exact d9 | exact (World.cell?_setCell_other _ _ _ _ (by first | exact m9 | exact m9.symm)).trans d9
            clear hK K
            try simp only [Act.put, List.setIfInBounds_toArray, List.set_cons_zero, List.set_cons_succ]
            refine wpAnyH_ready (rs := [15]) (by kernel_rfl) (by simp) ?_
            refine AllReadyH.cons (o := { dst := some 147, op := Op.buildSlice 25 1 #[(0, Operand.tmp 146)], type := 25, pos := _, after := #[{ on := 14, ground := Ground.data }], guard := none }) rfl (fun K hK => ?_) AllReadyH.nil
            go_simp
            refine hK.out _ _ ?_ (fun hHeld => ?_)
            · first | go_keep | exact d9 | exact (World.cell?_setCell_other _ _ _ _ (by first | exact m9 | exact m9.symm)).trans d9
            clear hK K
            try simp only [Act.put, List.setIfInBounds_toArray, List.set_cons_zero, List.set_cons_succ]
            refine wpAnyH_ready (rs := [16]) (by kernel_rfl) (by simp) ?_
            refine AllReadyH.cons (o := { dst := some 148, op := Op.call { callee := Callee.builtin Builtin.append, args := #[Operand.tmp 133, Operand.tmp 147], argTypes := #[25, 25] }, type := 25, pos := _, after := #[{ on := 1, ground := Ground.data }, { on := 15, ground := Ground.data }], guard := none }) rfl (fun K hK => ?_) AllReadyH.nil
            have T8 : RG w (wr.alloc (.cells #[.bool b1] 4)).drew gc W H T C := (S7.out.keep (below_new _ _)).drewN 1
            have T8 := Lib.hid T8
            refine step_append_lies _ (by rfl) (.tmp 133) (.tmp 147) 25 (by rfl) (gc + 1) 4 i0 (.bool false) 1 1 Try.underlying25 HI0.out HZ0.out HZ1.out HZ2.out rfl (by decide) C.AO' C.on.length (bools C.on) (by rfl) T8.out.gw.rO ⟨wr.heap.size, 0, none⟩ 1 1 [.bool b1] (by rfl) rfl (new_cells wr _ _) (by intro u hu; simp at hu; rcases hu with rfl; rfl) (by decide) (by unfold maxLen; omega) (by omega) (by have := T8.out.gw.lt; omega) (wr.heap.size + 1) (by simp) ?_
            intro g9 cap9 w9 hown9 hg9 hat9 hlt9
            have B9 := T8.out.gw.grow hg9 (fun g e => own_base T8.out.gw.rO e)
            have k9 : w9.cell? ⟨gc, 4, none⟩ = some (.slice C.AO C.on.length C.cO) := B9.2.2.cell 4
            have f9 : w9.frozen? ⟨gc, 4, none⟩ = false := B9.2.2.free 4
            have d9 := rd_byte (HRD.out.later B9.1) (k := p + d) (by omega)
            rw [HX2.out] at d9
            have m9 : (⟨gc, 4, none⟩ : Addr) ≠ a.add (p + d) := fun e' => gc_blk (k := p + d) HRD.out T8.out.gw (by omega) (congrArg Addr.block e')
            refine hK.out _ _ ?_ (fun hHeld => ?_)
            · first | go_keep | exact d9 | exact (World.cell?_setCell_other _ _ _ _ (by first | exact m9 | exact m9.symm)).trans d9
            clear hK K
            try simp only [Act.put, List.setIfInBounds_toArray, List.set_cons_zero, List.set_cons_succ]
            refine wpAnyH_take (i := 17) (oi := { dst := some 149, op := Op.fieldAddr 28 (Operand.tmp 10) 2, type := 0, pos := _, after := #[{ on := 0, ground := Ground.phase }, { on := 1, ground := Ground.phase }, { on := 2, ground := Ground.phase }, { on := 3, ground := Ground.phase }, { on := 4, ground := Ground.phase }, { on := 5, ground := Ground.phase }, { on := 6, ground := Ground.phase }, { on := 7, ground := Ground.phase }, { on := 8, ground := Ground.phase }, { on := 9, ground := Ground.phase }, { on := 10, ground := Ground.phase }, { on := 11, ground := Ground.phase }, { on := 12, ground := Ground.phase }, { on := 13, ground := Ground.phase }, { on := 14, ground := Ground.phase }, { on := 15, ground := Ground.phase }, { on := 16, ground := Ground.phase }], guard := none }) (v := ?_) rfl (by kernel_rfl) (by kernel_rfl) (by kernel_rfl) (fun _ _ _ h => h) (Or.inl ⟨by rfl, ?_⟩) (by assumption) ?_
            rotate_left
            · intro w hSw; (try dsimp only at hSw); go_simp; (try with_reducible rfl)
            try simp only [Act.put, List.setIfInBounds_toArray, List.set_cons_zero, List.set_cons_succ]
            refine wpAnyH_ready (rs := [18]) (by kernel_rfl) (by simp) ?_
            refine AllReadyH.cons (o := { dst := none, op := Op.store 25 (Operand.tmp 149) (Operand.tmp 148), type := 0, pos := _, after := #[{ on := 17, ground := Ground.data }, { on := 16, ground := Ground.data }, { on := 16, ground := Ground.chain }, { on := 0, ground := Ground.phase }, { on := 1, ground := Ground.phase }, { on := 2, ground := Ground.phase }, { on := 3, ground := Ground.phase }, { on := 4, ground := Ground.phase }, { on := 5, ground := Ground.phase }, { on := 6, ground := Ground.phase }, { on := 7, ground := Ground.phase }, { on := 8, ground := Ground.phase }, { on := 9, ground := Ground.phase }, { on := 10, ground := Ground.phase }, { on := 11, ground := Ground.phase }, { on := 12, ground := Ground.phase }, { on := 13, ground := Ground.phase }, { on := 14, ground := Ground.phase }, { on := 15, ground := Ground.phase }, { on := 16, ground := Ground.phase }], guard := none }) rfl (fun K hK => ?_) AllReadyH.nil
            go_simp
            refine hK.out _ _ ?_ (fun hHeld => ?_)
            · first | go_keep | exact d9 | exact (World.cell?_setCell_other _ _ _ _ (by first | exact m9 | exact m9.symm)).trans d9
            clear hK K
            try simp only [Act.put, List.setIfInBounds_toArray, List.set_cons_zero, List.set_cons_succ]
            refine wpAnyH_done (by kernel_rfl) ?_ _
            have T10 := T8.out.setO (t := b1) hg9 rfl (by rw [show bools (C.on ++ [b1]) = bools C.on ++ [.bool b1] by simp [bools]]; exact hown9)
            generalize w9.setCell ⟨gc, 4, none⟩ (.slice (some ⟨g9, 0, none⟩) (C.on.length + 1) cap9) = w10 at T10 ⊢
            have T10 := Lib.hid T10
            clear T8 hg9 hown9 hat9 hlt9 d9 d2 k3 k8 f3 f9 k9 B9 m9 hHeld hq1 hq2 hq3 hq4 hq5 hq9 hq10 hq11 hbit
            go_wp2_with fail
            go_roundw
            case rel =>
              refine ⟨q + 1, _, by omega, by go_num, ?_, ?_, ?_, T10.out⟩
              · exact HTD.out
              · show C.on ++ [b1] = _
                rw [HBX.out, ← HON.out]
              · exact HTR.out
            case measure => simp [intOf]; omega
          · skip
            go_simp
            refine hK.out _ _ ?_ (fun hHeld => ?_)
            · first | go_keep | exact d9 | exact (World.cell?_setCell_other _ _ _ _ (by first | exact m9 | exact m9.symm)).trans d9
            clear hK K
            try simp only [Act.put, List.setIfInBounds_toArray, List.set_cons_zero, List.set_cons_succ]
            refine wpAnyH_ready (rs := [1]) (by kernel_rfl) (by simp) ?_
            refine AllReadyH.cons (o := { dst := some 133, op := Op.load 25 (Operand.tmp 132), type := 25, pos := _, after := #[{ on := 0, ground := Ground.data }], guard := none }) rfl (fun K hK => ?_) AllReadyH.nil
            go_simp
            refine hK.out _ _ ?_ (fun hHeld => ?_)
            · first | go_keep | exact d9 | exact (World.cell?_setCell_other _ _ _ _ (by first | exact m9 | exact m9.symm)).trans d9
            clear hK K
            try simp only [Act.put, List.setIfInBounds_toArray, List.set_cons_zero, List.set_cons_succ]
            refine wpAnyH_ready (rs := [16]) (by kernel_rfl) (by simp) ?_
            refine AllReadyH.cons (o := { dst := some 148, op := Op.call { callee := Callee.builtin Builtin.append, args := #[Operand.tmp 133, Operand.tmp 147], argTypes := #[25, 25] }, type := 25, pos := _, after := #[{ on := 1, ground := Ground.data }, { on := 15, ground := Ground.data }], guard := none }) rfl (fun K hK => ?_) AllReadyH.nil
            have T8 : RG w (wr.alloc (.cells #[.bool b1] 4)).drew gc W H T C := (S7.out.keep (below_new _ _)).drewN 1
            have T8 := Lib.hid T8
            refine step_append_lies _ (by rfl) (.tmp 133) (.tmp 147) 25 (by rfl) (gc + 1) 4 i0 (.bool false) 1 1 Try.underlying25 HI0.out HZ0.out HZ1.out HZ2.out rfl (by decide) C.AO' C.on.length (bools C.on) (by rfl) T8.out.gw.rO ⟨wr.heap.size, 0, none⟩ 1 1 [.bool b1] (by rfl) rfl (new_cells wr _ _) (by intro u hu; simp at hu; rcases hu with rfl; rfl) (by decide) (by unfold maxLen; omega) (by omega) (by have := T8.out.gw.lt; omega) (wr.heap.size + 1) (by simp) ?_
            intro g9 cap9 w9 hown9 hg9 hat9 hlt9
            have B9 := T8.out.gw.grow hg9 (fun g e => own_base T8.out.gw.rO e)
            have k9 : w9.cell? ⟨gc, 4, none⟩ = some (.slice C.AO C.on.length C.cO) := B9.2.2.cell 4
            have f9 : w9.frozen? ⟨gc, 4, none⟩ = false := B9.2.2.free 4
            have d9 := rd_byte (HRD.out.later B9.1) (k := p + d) (by omega)
            rw [HX2.out] at d9
            have m9 : (⟨gc, 4, none⟩ : Addr) ≠ a.add (p + d) := fun e' => gc_blk (k := p + d) HRD.out T8.out.gw (by omega) (congrArg Addr.block e')
            refine hK.out _ _ ?_ (fun hHeld => ?_)
            · first | go_keep | exact d9 | exact (World.cell?_setCell_other _ _ _ _ (by first | exact m9 | exact m9.symm)).trans d9
            clear hK K
            try simp only [Act.put, List.setIfInBounds_toArray, List.set_cons_zero, List.set_cons_succ]
            refine wpAnyH_take (i := 17) (oi := { dst := some 149, op := Op.fieldAddr 28 (Operand.tmp 10) 2, type := 0, pos := _, after := #[{ on := 0, ground := Ground.phase }, { on := 1, ground := Ground.phase }, { on := 2, ground := Ground.phase }, { on := 3, ground := Ground.phase }, { on := 4, ground := Ground.phase }, { on := 5, ground := Ground.phase }, { on := 6, ground := Ground.phase }, { on := 7, ground := Ground.phase }, { on := 8, ground := Ground.phase }, { on := 9, ground := Ground.phase }, { on := 10, ground := Ground.phase }, { on := 11, ground := Ground.phase }, { on := 12, ground := Ground.phase }, { on := 13, ground := Ground.phase }, { on := 14, ground := Ground.phase }, { on := 15, ground := Ground.phase }, { on := 16, ground := Ground.phase }], guard := none }) (v := ?_) rfl (by kernel_rfl) (by kernel_rfl) (by kernel_rfl) (fun _ _ _ h => h) (Or.inl ⟨by rfl, ?_⟩) (by assumption) ?_
            rotate_left
            · intro w hSw; (try dsimp only at hSw); go_simp; (try with_reducible rfl)
            try simp only [Act.put, List.setIfInBounds_toArray, List.set_cons_zero, List.set_cons_succ]
            refine wpAnyH_ready (rs := [18]) (by kernel_rfl) (by simp) ?_
            refine AllReadyH.cons (o := { dst := none, op := Op.store 25 (Operand.tmp 149) (Operand.tmp 148), type := 0, pos := _, after := #[{ on := 17, ground := Ground.data }, { on := 16, ground := Ground.data }, { on := 16, ground := Ground.chain }, { on := 0, ground := Ground.phase }, { on := 1, ground := Ground.phase }, { on := 2, ground := Ground.phase }, { on := 3, ground := Ground.phase }, { on := 4, ground := Ground.phase }, { on := 5, ground := Ground.phase }, { on := 6, ground := Ground.phase }, { on := 7, ground := Ground.phase }, { on := 8, ground := Ground.phase }, { on := 9, ground := Ground.phase }, { on := 10, ground := Ground.phase }, { on := 11, ground := Ground.phase }, { on := 12, ground := Ground.phase }, { on := 13, ground := Ground.phase }, { on := 14, ground := Ground.phase }, { on := 15, ground := Ground.phase }, { on := 16, ground := Ground.phase }], guard := none }) rfl (fun K hK => ?_) AllReadyH.nil
            go_simp
            refine hK.out _ _ ?_ (fun hHeld => ?_)
            · first | go_keep | exact d9 | exact (World.cell?_setCell_other _ _ _ _ (by first | exact m9 | exact m9.symm)).trans d9
            clear hK K
            try simp only [Act.put, List.setIfInBounds_toArray, List.set_cons_zero, List.set_cons_succ]
            refine wpAnyH_done (by kernel_rfl) ?_ _
            have T10 := T8.out.setO (t := b1) hg9 rfl (by rw [show bools (C.on ++ [b1]) = bools C.on ++ [.bool b1] by simp [bools]]; exact hown9)
            generalize w9.setCell ⟨gc, 4, none⟩ (.slice (some ⟨g9, 0, none⟩) (C.on.length + 1) cap9) = w10 at T10 ⊢
            have T10 := Lib.hid T10
            clear T8 hg9 hown9 hat9 hlt9 d9 d2 k3 k8 f3 f9 k9 B9 m9 hHeld hq1 hq2 hq3 hq4 hq5 hq9 hq10 hq11 hbit
            go_wp2_with fail
            go_roundw
            case rel =>
              refine ⟨q + 1, _, by omega, by go_num, ?_, ?_, ?_, T10.out⟩
              · exact HTD.out
              · show C.on ++ [b1] = _
                rw [HBX.out, ← HON.out]
              · exact HTR.out
            case measure => simp [intOf]; omega
        · obtain rfl : q = N := by omega
          have htrw : TRW C W H T l q := by
            obtain ⟨h1, h2, h3, h4, h5, h6⟩ := HTR.out
            exact ⟨h1, h2, h3, HTD.out, by rw [HON.out]; unfold decO; rw [HPS.out]⟩
          have HTRW := Lib.hid htrw
          have HOUT0 := Lib.hid (And.intro HTR.out.2.2.2.1 HTR.out.2.2.2.2)
          clear htrw HTR HON HTD
          obtain ⟨d, hd⟩ : ∃ d, q / 8 = d := ⟨_, rfl⟩
          obtain ⟨r, hrr⟩ : ∃ r, q % 8 = r := ⟨_, rfl⟩
          have hr8 : r < 8 := by omega
          have hq1 : (q : Int).tdiv 8 = (d : Int) := by rw [Int.tdiv_eq_ediv_of_nonneg (by omega)]; omega
          have hq2 : (q : Int).tmod 8 = (r : Int) := by rw [Int.tmod_eq_emod_of_nonneg (by omega)]; omega
          have hq3 : (q : Int) / 8 = (d : Int) := by omega
          have hq4 : (q : Int) % 8 = (r : Int) := by omega
          have hoS : oddS l p q = (decide (r ≠ 0) && decide (l.getD (p + d) 0 / 2 ^ r ≠ 0)) := by unfold oddS; rw [hd, hrr]
          have HOS := Lib.hid hoS
          obtain ⟨x2, hx2e⟩ : ∃ x2, l.getD (p + d) 0 = x2 := ⟨_, rfl⟩
          have HX2 := Lib.hid hx2e
          have hds : 8 * d + r = q := by omega
          have HDS := Lib.hid hds
          clear hx2e hoS hd hrr
          by_cases h0 : r = 0
          · have hz0 : ((r : Int) != 0) = false := by rw [bne_eq_false_iff_eq]; omega
            have hos0 : oddS l p q = false := by rw [HOS.out, h0]; simp
            obtain ⟨p2, hp2⟩ : ∃ p2, p + (q + 7) / 8 = p2 := ⟨_, rfl⟩
            have hp2i : (p : Int) + ((q : Int) + 7) / 8 = (p2 : Int) := by omega
            have HP2 : Hid (atP l q = p2) := Lib.hid (by unfold atP; rw [HPS.out]; exact hp2)
            have hpb : p2 + 2 * (ni + nu) ≤ e := by omega
            have HOS0 := Lib.hid hos0
            clear hp2 hos0
            go_wp2_with fail
            clear hq1 hq2 hq3 hq4
            go_loopw [14] (fun i wx => ∃ (q' : Nat) (C : Cfg), q' ≤ ni + nu ∧ i = .int .i64 (q' : Int) ∧ TRW C W H T l q ∧ C.ins = numsAt l p2 (min q' ni) ∧ C.outs = numsAt l (p2 + 2 * ni) (q' - ni) ∧ (q' ≤ ni → C.AU = none) ∧ RG w wx gc W H T C) (fun i _ => ni + nu - (intOf i).toNat)
            case atStart => exact ⟨0, C, by omega, rfl, HTRW.out, by rw [HOUT0.out.1]; simp [numsAt], by rw [HOUT0.out.2.1]; simp [numsAt], fun _ => HOUT0.out.2.2, S7.out⟩
            case round =>
              clear S7 HTRW HOUT0 hp2i C
              obtain ⟨N, hNq⟩ : ∃ N, q = N := ⟨_, rfl⟩
              subst hNq
              obtain ⟨q', C, hq', rfl, htr, hin, hou, hau, hs⟩ := hrel
              have HTRW := Lib.hid htr
              have HIN := Lib.hid hin
              have HOU := Lib.hid hou
              have HAU := Lib.hid hau
              have S7 := Lib.hid hs
              clear htr hin hou hau hs
              by_cases hlt4 : q' < ni + nu
              · obtain ⟨p5, hp5⟩ : ∃ p5, p2 + 2 * q' = p5 := ⟨_, rfl⟩
                have HP5 := Lib.hid hp5
                have hp5i : (p2 : Int) + 2 * (q' : Int) = (p5 : Int) := by omega
                have hlt5 : (q' : Int) < (ni : Int) + (nu : Int) := by omega
                have hpe5 : p5 + 2 ≤ e := by omega
                clear hp5
                go_wp2_with fail
                refine (rnumber_any _ _ _ _ _ p5 (HRD.out.later S7.out.gw.below) HL.out (by omega) (by omega)).mono ?_
                rintro e7 w7 ⟨rfl, hb7⟩
                have T7 := Lib.hid (S7.out.keep hb7)
                clear S7 hb7 hp5i
                obtain ⟨i0, hi0, hz0, hz1, hz2⟩ := info_parts int_info
                have HI0 := Lib.hid hi0
                have HZ0 := Lib.hid hz0
                have HZ1 := Lib.hid hz1
                have HZ2 := Lib.hid hz2
                clear hi0 hz0 hz1 hz2
                by_cases hni : q' < ni
                · have k7 : w7.cell? ⟨gc, 5, none⟩ = some (.slice C.AI C.ins.length C.cI) := T7.out.gw.box.cell 5
                  have f7 := T7.out.gw.box.free 5
                  have hil : C.ins.length ≤ 100000 := by rw [HIN.out, numsAt_len]; omega
                  go_wp2_with (at_builtin; go_must (refine wpList_append_lies _ rfl (.tmp 190) (.tmp 192) 26 rfl (gc + 1) 3 i0 (.int .i64 0) 1 8 Try.underlying26 HI0.out HZ0.out HZ1.out HZ2.out rfl (by decide) C.AI' C.ins.length (ints C.ins) rfl (T7.out.gw.rI.alloc _) ⟨w7.heap.size, 0, none⟩ 1 1 [.int .i64 (num2 l p5 : Int)] rfl rfl (new_cells w7 _ _) (by intro u hu; simp at hu; rcases hu with rfl; rfl) (by decide) (by unfold maxLen; omega) (by omega) (by have := T7.out.gw.lt; simp; omega) (w7.heap.size + 1) (by simp) ?_))
                  intro g9 cap9 w9 hown9 hg9 hat9 hlt9
                  have hg9 : w7.grownBy w9 C.AI'.ownBlock := (World.grownBy_alloc w7 _ _).trans hg9
                  have B9 := (T7.out.gw.grow hg9 (fun g e => own_base T7.out.gw.rI e)).2.2
                  have k9 : w9.cell? ⟨gc, 5, none⟩ = some (.slice C.AI C.ins.length C.cI) := B9.cell 5
                  have f9 := B9.free 5
                  have T10 := T7.out.setI (t := (num2 l p5 : Int)) (by rw [show C.AU' = .slice C.AU C.outs.length C.cU from rfl, HOU.out, (HAU.out (by omega))]; rfl) hg9 rfl (by rw [ints_append]; exact hown9)
                  have T10 := Lib.hid T10
                  clear hg9 hown9 hat9 hlt9 T7 k7 f7 B9
                  go_wp2_with fail
                  go_roundw
                  case rel =>
                    refine ⟨q' + 1, _, by omega, by go_num, ?_, ?_, ?_, ?_, T10.out⟩
                    · exact HTRW.out
                    · show C.ins ++ [(num2 l p5 : Int)] = _
                      rw [show min (q' + 1) ni = q' + 1 by omega, numsAt_next, HP5.out, HIN.out, show min q' ni = q' by omega]
                    · show C.outs = _
                      rw [HOU.out, show q' + 1 - ni = 0 by omega, show q' - ni = 0 by omega]
                    · exact fun h => HAU.out (by omega)
                  case measure => simp [intOf]; omega
                · have k7 : w7.cell? ⟨gc, 6, none⟩ = some (.slice C.AU C.outs.length C.cU) := T7.out.gw.box.cell 6
                  have f7 := T7.out.gw.box.free 6
                  have hil : C.outs.length ≤ 200000 := by rw [HOU.out, numsAt_len]; omega
                  go_wp2_with (at_builtin; go_must (refine wpList_append_lies _ rfl (.tmp 196) (.tmp 198) 26 rfl (gc + 1) 3 i0 (.int .i64 0) 1 8 Try.underlying26 HI0.out HZ0.out HZ1.out HZ2.out rfl (by decide) C.AU' C.outs.length (ints C.outs) rfl (T7.out.gw.rU.alloc _) ⟨w7.heap.size, 0, none⟩ 1 1 [.int .i64 (num2 l p5 : Int)] rfl rfl (new_cells w7 _ _) (by intro u hu; simp at hu; rcases hu with rfl; rfl) (by decide) (by unfold maxLen; omega) (by omega) (by have := T7.out.gw.lt; simp; omega) (w7.heap.size + 1) (by simp) ?_))
                  intro g9 cap9 w9 hown9 hg9 hat9 hlt9
                  have hg9 : w7.grownBy w9 C.AU'.ownBlock := (World.grownBy_alloc w7 _ _).trans hg9
                  have B9 := (T7.out.gw.grow hg9 (fun g e => own_base T7.out.gw.rU e)).2.2
                  have k9 : w9.cell? ⟨gc, 6, none⟩ = some (.slice C.AU C.outs.length C.cU) := B9.cell 6
                  have f9 := B9.free 6
                  have T10 := T7.out.setU (A := some ⟨g9, 0, none⟩) (d := cap9) (n := C.outs.length + 1) (t := (num2 l p5 : Int)) hg9 (by
                    rcases hat9 with h | h
                    · exact .inl (by rw [h]; rfl)
                    · exact .inr (fun g' e' => by simp [Value.ownBlock] at e'; omega)) rfl (by rw [ints_append]; exact hown9)
                  have T10 := Lib.hid T10
                  clear hg9 hown9 hat9 hlt9 T7 k7 f7 B9
                  go_wp2_with fail
                  go_roundw
                  case rel =>
                    refine ⟨q' + 1, _, by omega, by go_num, ?_, ?_, ?_, ?_, T10.out⟩
                    · exact HTRW.out
                    · show C.ins = _
                      rw [HIN.out, show min (q' + 1) ni = ni by omega, show min q' ni = ni by omega]
                    · show C.outs ++ [(num2 l p5 : Int)] = _
                      rw [show q' + 1 - ni = (q' - ni) + 1 by omega, numsAt_next, HOU.out, ← HP5.out, show p2 + 2 * ni + 2 * (q' - ni) = p2 + 2 * q' by omega]
                    · exact fun h => absurd h (by omega)
                  case measure => simp [intOf]; omega
              · obtain rfl : q' = ni + nu := by omega
                have hlt5 : decide (((ni + nu : Nat) : Int) < (ni : Int) + (nu : Int)) = false := decide_eq_false (by omega)
                have hou : C.outs = decU l q := by
                  rw [HOU.out]; unfold decU nI nU
                  rw [HP2.out, HNI.out, HNU.out, show ni + nu - ni = nu by omega]
                have hin : C.ins = decI l q := by
                  rw [HIN.out]; unfold decI nI
                  rw [HP2.out, HNI.out, show min (ni + nu) ni = ni by omega]
                have TOLD : Told l C := by
                  obtain ⟨h1, h2, h3, h4, h5⟩ := HTRW.out
                  exact ⟨by rw [h1, HW.out], by rw [h2, HH.out], by rw [h3, HT.out], h4, by rw [h5, HN.out], by rw [hin, HN.out], by rw [hou, HN.out]⟩
                have TOLD := Lib.hid TOLD
                have hfw : C.few := by
                  obtain ⟨h1, h2, h3, h4, h5⟩ := HTRW.out
                  have e1 := HIN.out
                  have e2 := HOU.out
                  have h6 := HSZ.out
                  unfold Cfg.few
                  rw [h4, h5, e1, e2]
                  simp only [decT, decO, tilesAt_len, bitsAt_len, numsAt_len]
                  rw [HNT.out]
                  omega
                clear hou hin HIN HOU HAU
                have hE := HX0.out
                rw [HOD0.out, HOS0.out] at hE
                have HE9 := Lib.hid hE
                clear hE
                obtain ⟨k0, k1, k2, k3, k4, k5, k6⟩ := GW.cells S7.out.gw
                by_cases hok : C.ok
                · have he9 : getE l = 0 := by rw [HE9.out, if_neg (by simp), if_neg (by rw [← TOLD.out.ok]; exact fun h => h hok)]
                  have HX := Lib.hid he9
                  have hb9 := rcheck31_any C wr S7.out.gw.in_ hfw
                  unfold RCH at hb9
                  rw [show C.E = 0 from if_pos hok] at hb9
                  have HB9 := Lib.hid hb9
                  clear he9 hb9 hok
                  go_wp2_with fail
                  refine HB9.out.mono ?_
                  rintro e8 w8 ⟨rfl, hb8⟩
                  have G8 := Lib.hid (S7.out.gw.keep hb8)
                  clear k0 k1 k2 k3 k4 k5 k6 hb8 HB9
                  obtain ⟨k0, k1, k2, k3, k4, k5, k6⟩ := GW.cells G8.out
                  obtain ⟨r0, r1, r2, r3, r4, r5, r6⟩ := GW.zeros G8.out
                  obtain ⟨s0, s1, s2, s3, s4, s5, s6⟩ := free_cells G8.out.res
                  go_wp2_with fail
                  rw [← HR.out]
                  exact get_yes rfl l w w8 _ gc C G8.out HX.out TOLD.out rfl rfl
                · have he9 : getE l = 310 := by rw [HE9.out, if_neg (by simp), if_pos (by rw [← TOLD.out.ok]; exact hok)]
                  have HX := Lib.hid he9
                  have hb9 := rcheck31_any C wr S7.out.gw.in_ hfw
                  unfold RCH at hb9
                  rw [show C.E = 1 from if_neg hok] at hb9
                  have HB9 := Lib.hid hb9
                  clear he9 hb9 hok
                  go_wp2_with fail
                  refine HB9.out.mono ?_
                  rintro e8 w8 ⟨rfl, hb8⟩
                  have G8 := Lib.hid (S7.out.keep hb8)
                  clear k0 k1 k2 k3 k4 k5 k6 hb8 HB9
                  obtain ⟨r0, r1, r2, r3, r4, r5, r6⟩ := zero_cells G8.out.gw.res
                  obtain ⟨s0, s1, s2, s3, s4, s5, s6⟩ := free_cells G8.out.gw.res
                  obtain ⟨t0, t1, t2, t3, t4, t5, t6⟩ := zero_cells G8.out.non
                  go_wp2_with fail
                  rw [← HR.out]
                  exact get_err rfl l w w8 _ 310 G8.out.gw.below G8.out.gw.res HX.out (by decide) rfl rfl
          · have hz0 : ((r : Int) != 0) = true := by rw [bne_iff_ne]; omega
            have hdN : p + d < n := by have := HDS.out; omega
            have hq5 : IntKind.i64.wrap ((p : Int) + (d : Int)) = (p : Int) + (d : Int) := IntWalk.i64_in _ (by omega)
            have hq6 : (0 : Int) ≤ (p : Int) + (d : Int) := by omega
            have hq7 : (p : Int) + (d : Int) < (n : Int) := by omega
            have hq8 : ((p : Int) + (d : Int)).toNat = p + d := by omega
            have d2 := rd_byte (HRD.out.later S7.out.gw.below) (k := p + d) (by omega)
            have hx2 := getD_lt HL.out (p + d)
            rw [HX2.out] at d2 hx2
            by_cases hb0 : x2 / 2 ^ r = 0
            · have hbit : ((x2 : Int) / 2 ^ r != 0) = false := by
                have h1 : ((x2 : Int) / 2 ^ r) = ((x2 / 2 ^ r : Nat) : Int) := by rw [Int.natCast_ediv, Int.natCast_pow]; rfl
                rw [h1, hb0]; rfl
              have hos0 : oddS l p q = false := by rw [HOS.out, HX2.out, hb0]; simp
              clear h0 hb0
              obtain ⟨p2, hp2⟩ : ∃ p2, p + (q + 7) / 8 = p2 := ⟨_, rfl⟩
              have hp2i : (p : Int) + ((q : Int) + 7) / 8 = (p2 : Int) := by omega
              have HP2 : Hid (atP l q = p2) := Lib.hid (by unfold atP; rw [HPS.out]; exact hp2)
              have hpb : p2 + 2 * (ni + nu) ≤ e := by omega
              have HOS0 := Lib.hid hos0
              clear hp2 hos0
              go_wp2_with fail
              clear hq1 hq2 hq3 hq4 d2 hbit hq5 hq6 hq7 hq8
              go_loopw [14] (fun i wx => ∃ (q' : Nat) (C : Cfg), q' ≤ ni + nu ∧ i = .int .i64 (q' : Int) ∧ TRW C W H T l q ∧ C.ins = numsAt l p2 (min q' ni) ∧ C.outs = numsAt l (p2 + 2 * ni) (q' - ni) ∧ (q' ≤ ni → C.AU = none) ∧ RG w wx gc W H T C) (fun i _ => ni + nu - (intOf i).toNat)
              case atStart => exact ⟨0, C, by omega, rfl, HTRW.out, by rw [HOUT0.out.1]; simp [numsAt], by rw [HOUT0.out.2.1]; simp [numsAt], fun _ => HOUT0.out.2.2, S7.out⟩
              case round =>
                clear S7 HTRW HOUT0 hp2i C
                obtain ⟨N, hNq⟩ : ∃ N, q = N := ⟨_, rfl⟩
                subst hNq
                obtain ⟨q', C, hq', rfl, htr, hin, hou, hau, hs⟩ := hrel
                have HTRW := Lib.hid htr
                have HIN := Lib.hid hin
                have HOU := Lib.hid hou
                have HAU := Lib.hid hau
                have S7 := Lib.hid hs
                clear htr hin hou hau hs
                by_cases hlt4 : q' < ni + nu
                · obtain ⟨p5, hp5⟩ : ∃ p5, p2 + 2 * q' = p5 := ⟨_, rfl⟩
                  have HP5 := Lib.hid hp5
                  have hp5i : (p2 : Int) + 2 * (q' : Int) = (p5 : Int) := by omega
                  have hlt5 : (q' : Int) < (ni : Int) + (nu : Int) := by omega
                  have hpe5 : p5 + 2 ≤ e := by omega
                  clear hp5
                  go_wp2_with fail
                  refine (rnumber_any _ _ _ _ _ p5 (HRD.out.later S7.out.gw.below) HL.out (by omega) (by omega)).mono ?_
                  rintro e7 w7 ⟨rfl, hb7⟩
                  have T7 := Lib.hid (S7.out.keep hb7)
                  clear S7 hb7 hp5i
                  obtain ⟨i0, hi0, hz0, hz1, hz2⟩ := info_parts int_info
                  have HI0 := Lib.hid hi0
                  have HZ0 := Lib.hid hz0
                  have HZ1 := Lib.hid hz1
                  have HZ2 := Lib.hid hz2
                  clear hi0 hz0 hz1 hz2
                  by_cases hni : q' < ni
                  · have k7 : w7.cell? ⟨gc, 5, none⟩ = some (.slice C.AI C.ins.length C.cI) := T7.out.gw.box.cell 5
                    have f7 := T7.out.gw.box.free 5
                    have hil : C.ins.length ≤ 100000 := by rw [HIN.out, numsAt_len]; omega
                    go_wp2_with (at_builtin; go_must (refine wpList_append_lies _ rfl (.tmp 190) (.tmp 192) 26 rfl (gc + 1) 3 i0 (.int .i64 0) 1 8 Try.underlying26 HI0.out HZ0.out HZ1.out HZ2.out rfl (by decide) C.AI' C.ins.length (ints C.ins) rfl (T7.out.gw.rI.alloc _) ⟨w7.heap.size, 0, none⟩ 1 1 [.int .i64 (num2 l p5 : Int)] rfl rfl (new_cells w7 _ _) (by intro u hu; simp at hu; rcases hu with rfl; rfl) (by decide) (by unfold maxLen; omega) (by omega) (by have := T7.out.gw.lt; simp; omega) (w7.heap.size + 1) (by simp) ?_))
                    intro g9 cap9 w9 hown9 hg9 hat9 hlt9
                    have hg9 : w7.grownBy w9 C.AI'.ownBlock := (World.grownBy_alloc w7 _ _).trans hg9
                    have B9 := (T7.out.gw.grow hg9 (fun g e => own_base T7.out.gw.rI e)).2.2
                    have k9 : w9.cell? ⟨gc, 5, none⟩ = some (.slice C.AI C.ins.length C.cI) := B9.cell 5
                    have f9 := B9.free 5
                    have T10 := T7.out.setI (t := (num2 l p5 : Int)) (by rw [show C.AU' = .slice C.AU C.outs.length C.cU from rfl, HOU.out, (HAU.out (by omega))]; rfl) hg9 rfl (by rw [ints_append]; exact hown9)
                    have T10 := Lib.hid T10
                    clear hg9 hown9 hat9 hlt9 T7 k7 f7 B9
                    go_wp2_with fail
                    go_roundw
                    case rel =>
                      refine ⟨q' + 1, _, by omega, by go_num, ?_, ?_, ?_, ?_, T10.out⟩
                      · exact HTRW.out
                      · show C.ins ++ [(num2 l p5 : Int)] = _
                        rw [show min (q' + 1) ni = q' + 1 by omega, numsAt_next, HP5.out, HIN.out, show min q' ni = q' by omega]
                      · show C.outs = _
                        rw [HOU.out, show q' + 1 - ni = 0 by omega, show q' - ni = 0 by omega]
                      · exact fun h => HAU.out (by omega)
                    case measure => simp [intOf]; omega
                  · have k7 : w7.cell? ⟨gc, 6, none⟩ = some (.slice C.AU C.outs.length C.cU) := T7.out.gw.box.cell 6
                    have f7 := T7.out.gw.box.free 6
                    have hil : C.outs.length ≤ 200000 := by rw [HOU.out, numsAt_len]; omega
                    go_wp2_with (at_builtin; go_must (refine wpList_append_lies _ rfl (.tmp 196) (.tmp 198) 26 rfl (gc + 1) 3 i0 (.int .i64 0) 1 8 Try.underlying26 HI0.out HZ0.out HZ1.out HZ2.out rfl (by decide) C.AU' C.outs.length (ints C.outs) rfl (T7.out.gw.rU.alloc _) ⟨w7.heap.size, 0, none⟩ 1 1 [.int .i64 (num2 l p5 : Int)] rfl rfl (new_cells w7 _ _) (by intro u hu; simp at hu; rcases hu with rfl; rfl) (by decide) (by unfold maxLen; omega) (by omega) (by have := T7.out.gw.lt; simp; omega) (w7.heap.size + 1) (by simp) ?_))
                    intro g9 cap9 w9 hown9 hg9 hat9 hlt9
                    have hg9 : w7.grownBy w9 C.AU'.ownBlock := (World.grownBy_alloc w7 _ _).trans hg9
                    have B9 := (T7.out.gw.grow hg9 (fun g e => own_base T7.out.gw.rU e)).2.2
                    have k9 : w9.cell? ⟨gc, 6, none⟩ = some (.slice C.AU C.outs.length C.cU) := B9.cell 6
                    have f9 := B9.free 6
                    have T10 := T7.out.setU (A := some ⟨g9, 0, none⟩) (d := cap9) (n := C.outs.length + 1) (t := (num2 l p5 : Int)) hg9 (by
                      rcases hat9 with h | h
                      · exact .inl (by rw [h]; rfl)
                      · exact .inr (fun g' e' => by simp [Value.ownBlock] at e'; omega)) rfl (by rw [ints_append]; exact hown9)
                    have T10 := Lib.hid T10
                    clear hg9 hown9 hat9 hlt9 T7 k7 f7 B9
                    go_wp2_with fail
                    go_roundw
                    case rel =>
                      refine ⟨q' + 1, _, by omega, by go_num, ?_, ?_, ?_, ?_, T10.out⟩
                      · exact HTRW.out
                      · show C.ins = _
                        rw [HIN.out, show min (q' + 1) ni = ni by omega, show min q' ni = ni by omega]
                      · show C.outs ++ [(num2 l p5 : Int)] = _
                        rw [show q' + 1 - ni = (q' - ni) + 1 by omega, numsAt_next, HOU.out, ← HP5.out, show p2 + 2 * ni + 2 * (q' - ni) = p2 + 2 * q' by omega]
                      · exact fun h => absurd h (by omega)
                    case measure => simp [intOf]; omega
                · obtain rfl : q' = ni + nu := by omega
                  have hlt5 : decide (((ni + nu : Nat) : Int) < (ni : Int) + (nu : Int)) = false := decide_eq_false (by omega)
                  have hou : C.outs = decU l q := by
                    rw [HOU.out]; unfold decU nI nU
                    rw [HP2.out, HNI.out, HNU.out, show ni + nu - ni = nu by omega]
                  have hin : C.ins = decI l q := by
                    rw [HIN.out]; unfold decI nI
                    rw [HP2.out, HNI.out, show min (ni + nu) ni = ni by omega]
                  have TOLD : Told l C := by
                    obtain ⟨h1, h2, h3, h4, h5⟩ := HTRW.out
                    exact ⟨by rw [h1, HW.out], by rw [h2, HH.out], by rw [h3, HT.out], h4, by rw [h5, HN.out], by rw [hin, HN.out], by rw [hou, HN.out]⟩
                  have TOLD := Lib.hid TOLD
                  have hfw : C.few := by
                    obtain ⟨h1, h2, h3, h4, h5⟩ := HTRW.out
                    have e1 := HIN.out
                    have e2 := HOU.out
                    have h6 := HSZ.out
                    unfold Cfg.few
                    rw [h4, h5, e1, e2]
                    simp only [decT, decO, tilesAt_len, bitsAt_len, numsAt_len]
                    rw [HNT.out]
                    omega
                  clear hou hin HIN HOU HAU
                  have hE := HX0.out
                  rw [HOD0.out, HOS0.out] at hE
                  have HE9 := Lib.hid hE
                  clear hE
                  obtain ⟨k0, k1, k2, k3, k4, k5, k6⟩ := GW.cells S7.out.gw
                  by_cases hok : C.ok
                  · have he9 : getE l = 0 := by rw [HE9.out, if_neg (by simp), if_neg (by rw [← TOLD.out.ok]; exact fun h => h hok)]
                    have HX := Lib.hid he9
                    have hb9 := rcheck31_any C wr S7.out.gw.in_ hfw
                    unfold RCH at hb9
                    rw [show C.E = 0 from if_pos hok] at hb9
                    have HB9 := Lib.hid hb9
                    clear he9 hb9 hok
                    go_wp2_with fail
                    refine HB9.out.mono ?_
                    rintro e8 w8 ⟨rfl, hb8⟩
                    have G8 := Lib.hid (S7.out.gw.keep hb8)
                    clear k0 k1 k2 k3 k4 k5 k6 hb8 HB9
                    obtain ⟨k0, k1, k2, k3, k4, k5, k6⟩ := GW.cells G8.out
                    obtain ⟨r0, r1, r2, r3, r4, r5, r6⟩ := GW.zeros G8.out
                    obtain ⟨s0, s1, s2, s3, s4, s5, s6⟩ := free_cells G8.out.res
                    go_wp2_with fail
                    rw [← HR.out]
                    exact get_yes rfl l w w8 _ gc C G8.out HX.out TOLD.out rfl rfl
                  · have he9 : getE l = 310 := by rw [HE9.out, if_neg (by simp), if_pos (by rw [← TOLD.out.ok]; exact hok)]
                    have HX := Lib.hid he9
                    have hb9 := rcheck31_any C wr S7.out.gw.in_ hfw
                    unfold RCH at hb9
                    rw [show C.E = 1 from if_neg hok] at hb9
                    have HB9 := Lib.hid hb9
                    clear he9 hb9 hok
                    go_wp2_with fail
                    refine HB9.out.mono ?_
                    rintro e8 w8 ⟨rfl, hb8⟩
                    have G8 := Lib.hid (S7.out.keep hb8)
                    clear k0 k1 k2 k3 k4 k5 k6 hb8 HB9
                    obtain ⟨r0, r1, r2, r3, r4, r5, r6⟩ := zero_cells G8.out.gw.res
                    obtain ⟨s0, s1, s2, s3, s4, s5, s6⟩ := free_cells G8.out.gw.res
                    obtain ⟨t0, t1, t2, t3, t4, t5, t6⟩ := zero_cells G8.out.non
                    go_wp2_with fail
                    rw [← HR.out]
                    exact get_err rfl l w w8 _ 310 G8.out.gw.below G8.out.gw.res HX.out (by decide) rfl rfl
            · have hbit : ((x2 : Int) / 2 ^ r != 0) = true := by
                have h1 : ((x2 : Int) / 2 ^ r) = ((x2 / 2 ^ r : Nat) : Int) := by rw [Int.natCast_ediv, Int.natCast_pow]; rfl
                rw [h1, bne_iff_ne]; omega
              have hos0 : oddS l p q = true := by rw [HOS.out, HX2.out, decide_eq_true h0, decide_eq_true hb0]; rfl
              have hx : getE l = 310 := by rw [HX0.out, hos0]; simp
              have HX := Lib.hid hx
              clear hx h0 hb0 hos0
              obtain ⟨r0, r1, r2, r3, r4, r5, r6⟩ := zero_cells S7.out.gw.res
              obtain ⟨s0, s1, s2, s3, s4, s5, s6⟩ := free_cells S7.out.gw.res
              obtain ⟨t0, t1, t2, t3, t4, t5, t6⟩ := zero_cells S7.out.non
              go_wp2_with fail
              rw [← HR.out]
              exact get_err rfl l w wr _ 310 S7.out.gw.below S7.out.gw.res HX.out (by decide) rfl rfl
end Go.Proofs.Ytoloaecbfglaeaa
