/- Walk of filigreeref31.Get: bytes that are no configuration. -/
import Derived.Test.YtoloaecbfglaeaaRgetS
import Derived.Deep.RegionHeld3
import Derived.Deep.QuietTactic
import Derived.BigQuiet
import Derived.IntWalk
namespace Go.Proofs.Ytoloaecbfglaeaa
open Go.RowKit Go.Shelf
set_option linter.unusedVariables false
set_option linter.unusedSimpArgs false
attribute [local go_sem] Oper.semAt_some

set_option maxRecDepth 100000 in
set_option maxHeartbeats 2000000 in
theorem rget_short (A : Option Addr) (n c : Nat) (l : List Nat) (w : World) (hln : l.length = n) (h15 : n < 15) : RGET A n c w (GetOut l w) := by
  unfold RGET
  obtain ⟨R, hR⟩ : ∃ R, GetOut l w = R := ⟨_, rfl⟩
  rw [hR]
  have HR := Lib.hid hR
  have hx : getE l = 310 := by unfold getE; rw [if_pos (.inl (by omega))]
  have HX := Lib.hid hx
  have hd15 : decide ((n : Int) < 15) = true := decide_eq_true (by omega)
  clear hR hx hln
  go_enter Try.func20, Try.ntmps20
  go_upto_region 2 with (fail)
  have q0 : Below w.heap.size w ((w.alloc (.cells #[.int .i64 0, .int .i64 0, .int .i64 0, .slice none 0 0, .slice none 0 0, .slice none 0 0, .slice none 0 0] 28)).alloc (.cells #[.int .i64 0, .int .i64 0, .int .i64 0, .slice none 0 0, .slice none 0 0, .slice none 0 0, .slice none 0 0] 28)) := below_then (below_new w _) (below_new (w.alloc _) _)
  have r0 : Blk ((w.alloc (.cells #[.int .i64 0, .int .i64 0, .int .i64 0, .slice none 0 0, .slice none 0 0, .slice none 0 0, .slice none 0 0] 28)).alloc (.cells #[.int .i64 0, .int .i64 0, .int .i64 0, .slice none 0 0, .slice none 0 0, .slice none 0 0, .slice none 0 0] 28)) w.heap.size 28 zero7 := (Blk.made w 28 zero7).alloc _
  have r1 : Blk ((w.alloc (.cells #[.int .i64 0, .int .i64 0, .int .i64 0, .slice none 0 0, .slice none 0 0, .slice none 0 0, .slice none 0 0] 28)).alloc (.cells #[.int .i64 0, .int .i64 0, .int .i64 0, .slice none 0 0, .slice none 0 0, .slice none 0 0, .slice none 0 0] 28)) (w.heap.size + 1) 28 zero7 := by have := Blk.made (w.alloc (.cells #[.int .i64 0, .int .i64 0, .int .i64 0, .slice none 0 0, .slice none 0 0, .slice none 0 0, .slice none 0 0] 28)) 28 zero7; simpa using this
  generalize ((w.alloc (.cells #[.int .i64 0, .int .i64 0, .int .i64 0, .slice none 0 0, .slice none 0 0, .slice none 0 0, .slice none 0 0] 28)).alloc (.cells #[.int .i64 0, .int .i64 0, .int .i64 0, .slice none 0 0, .slice none 0 0, .slice none 0 0, .slice none 0 0] 28)) = W0 at r0 r1 q0 ⊢
  obtain ⟨r00, r01, r2, r3, r4, r5, r6⟩ := zero_cells r0
  obtain ⟨s00, s1, s2, s3, s4, s5, s6⟩ := free_cells r0
  obtain ⟨t0, t1, t2, t3, t4, t5, t6⟩ := zero_cells r1
  have HR0 := Lib.hid r0
  have HQ0 := Lib.hid q0
  clear r0 q0 r1
  go_wp2_with fail
  rw [← HR.out]
  exact get_err rfl l w W0 _ 310 HQ0.out HR0.out HX.out (by decide) rfl rfl

set_option maxRecDepth 100000 in
set_option maxHeartbeats 2000000 in
theorem rget_magic (a : Addr) (n c : Nat) (l : List Nat) (w : World) (hr : Rd w 1 (some a) n c (bys l)) (hl : ∀ x ∈ l, x < 256) (hn : n ≤ 5000) (hc : c ≤ maxLen) (h15 : 15 ≤ n) (hm : ¬ l.take 4 = magicB) : RGET (some a) n c w (GetOut l w) := by
  unfold RGET
  obtain ⟨R, hR⟩ : ∃ R, GetOut l w = R := ⟨_, rfl⟩
  rw [hR]
  have HR := Lib.hid hR
  have hln : l.length = n := by have := hr.len; rw [bys_length] at this; omega
  have hcn := hr.cap
  have HRD := Lib.hid hr
  have HL := Lib.hid hl
  have HLN := Lib.hid hln
  have hd15 : decide ((n : Int) < 15) = false := decide_eq_false (by omega)
  have HM := Lib.hid hm
  unfold maxLen at hc
  clear hR hr hl hln hm 
  go_enter Try.func20, Try.ntmps20
  go_upto_region 2 with (fail)
  have q0 : Below w.heap.size w ((w.alloc (.cells #[.int .i64 0, .int .i64 0, .int .i64 0, .slice none 0 0, .slice none 0 0, .slice none 0 0, .slice none 0 0] 28)).alloc (.cells #[.int .i64 0, .int .i64 0, .int .i64 0, .slice none 0 0, .slice none 0 0, .slice none 0 0, .slice none 0 0] 28)) := below_then (below_new w _) (below_new (w.alloc _) _)
  have r0 : Blk ((w.alloc (.cells #[.int .i64 0, .int .i64 0, .int .i64 0, .slice none 0 0, .slice none 0 0, .slice none 0 0, .slice none 0 0] 28)).alloc (.cells #[.int .i64 0, .int .i64 0, .int .i64 0, .slice none 0 0, .slice none 0 0, .slice none 0 0, .slice none 0 0] 28)) w.heap.size 28 zero7 := (Blk.made w 28 zero7).alloc _
  have r1 : Blk ((w.alloc (.cells #[.int .i64 0, .int .i64 0, .int .i64 0, .slice none 0 0, .slice none 0 0, .slice none 0 0, .slice none 0 0] 28)).alloc (.cells #[.int .i64 0, .int .i64 0, .int .i64 0, .slice none 0 0, .slice none 0 0, .slice none 0 0, .slice none 0 0] 28)) (w.heap.size + 1) 28 zero7 := by have := Blk.made (w.alloc (.cells #[.int .i64 0, .int .i64 0, .int .i64 0, .slice none 0 0, .slice none 0 0, .slice none 0 0, .slice none 0 0] 28)) 28 zero7; simpa using this
  have s0 : ((w.alloc (.cells #[.int .i64 0, .int .i64 0, .int .i64 0, .slice none 0 0, .slice none 0 0, .slice none 0 0, .slice none 0 0] 28)).alloc (.cells #[.int .i64 0, .int .i64 0, .int .i64 0, .slice none 0 0, .slice none 0 0, .slice none 0 0, .slice none 0 0] 28)).heap.size = w.heap.size + 2 := by simp
  generalize ((w.alloc (.cells #[.int .i64 0, .int .i64 0, .int .i64 0, .slice none 0 0, .slice none 0 0, .slice none 0 0, .slice none 0 0] 28)).alloc (.cells #[.int .i64 0, .int .i64 0, .int .i64 0, .slice none 0 0, .slice none 0 0, .slice none 0 0, .slice none 0 0] 28)) = W0 at r0 r1 q0 s0 ⊢
  have hcv := conv_bytes (rd_take (HRD.out.later q0) (m := 4) (by omega))
  have hms : ((strB (l.take 4)).toList == [70, 71, 66, 49]) = false := by
    have h := HM.out
    rw [strB_list (fun x hx => HL.out x (List.mem_of_mem_take hx))]
    exact decide_eq_false h
  generalize strB (l.take 4) = sB at hcv hms
  have hx : getE l = 310 := by unfold getE; rw [if_pos (.inr HM.out)]
  have HX := Lib.hid hx
  obtain ⟨r00, r01, r2, r3, r4, r5, r6⟩ := zero_cells r0
  obtain ⟨s00, s1, s2, s3, s4, s5, s6⟩ := free_cells r0
  obtain ⟨t0, t1, t2, t3, t4, t5, t6⟩ := zero_cells r1
  have HR0 := Lib.hid r0
  have HQ0 := Lib.hid q0
  clear hx r0 q0 r1
  go_wp2_with fail
  rw [← HR.out]
  exact get_err rfl l w W0 _ 310 HQ0.out HR0.out HX.out (by decide) rfl rfl

set_option maxRecDepth 100000 in
set_option maxHeartbeats 4000000 in
theorem rget_arch (a : Addr) (n c : Nat) (l : List Nat) (w : World) (hr : Rd w 1 (some a) n c (bys l)) (hl : ∀ x ∈ l, x < 256) (hn : n ≤ 5000) (hc : c ≤ maxLen) (h15 : 15 ≤ n) (hm : l.take 4 = magicB)
    (hA : ¬ okA (gW l) (gH l) (gT l)) : RGET (some a) n c w (GetOut l w) := by
  unfold RGET
  obtain ⟨R, hR⟩ : ∃ R, GetOut l w = R := ⟨_, rfl⟩
  rw [hR]
  have HR := Lib.hid hR
  have hln : l.length = n := by have := hr.len; rw [bys_length] at this; omega
  have hcn := hr.cap
  have HRD := Lib.hid hr
  have HL := Lib.hid hl
  have HLN := Lib.hid hln
  have hd15 : decide ((n : Int) < 15) = false := decide_eq_false (by omega)
  have HM := Lib.hid hm
  have HA := Lib.hid hA
  unfold maxLen at hc
  clear hR hr hl hln hm hA
  go_enter Try.func20, Try.ntmps20
  go_upto_region 2 with (fail)
  have q0 : Below w.heap.size w ((w.alloc (.cells #[.int .i64 0, .int .i64 0, .int .i64 0, .slice none 0 0, .slice none 0 0, .slice none 0 0, .slice none 0 0] 28)).alloc (.cells #[.int .i64 0, .int .i64 0, .int .i64 0, .slice none 0 0, .slice none 0 0, .slice none 0 0, .slice none 0 0] 28)) := below_then (below_new w _) (below_new (w.alloc _) _)
  have r0 : Blk ((w.alloc (.cells #[.int .i64 0, .int .i64 0, .int .i64 0, .slice none 0 0, .slice none 0 0, .slice none 0 0, .slice none 0 0] 28)).alloc (.cells #[.int .i64 0, .int .i64 0, .int .i64 0, .slice none 0 0, .slice none 0 0, .slice none 0 0, .slice none 0 0] 28)) w.heap.size 28 zero7 := (Blk.made w 28 zero7).alloc _
  have r1 : Blk ((w.alloc (.cells #[.int .i64 0, .int .i64 0, .int .i64 0, .slice none 0 0, .slice none 0 0, .slice none 0 0, .slice none 0 0] 28)).alloc (.cells #[.int .i64 0, .int .i64 0, .int .i64 0, .slice none 0 0, .slice none 0 0, .slice none 0 0, .slice none 0 0] 28)) (w.heap.size + 1) 28 zero7 := by have := Blk.made (w.alloc (.cells #[.int .i64 0, .int .i64 0, .int .i64 0, .slice none 0 0, .slice none 0 0, .slice none 0 0, .slice none 0 0] 28)) 28 zero7; simpa using this
  have s0 : ((w.alloc (.cells #[.int .i64 0, .int .i64 0, .int .i64 0, .slice none 0 0, .slice none 0 0, .slice none 0 0, .slice none 0 0] 28)).alloc (.cells #[.int .i64 0, .int .i64 0, .int .i64 0, .slice none 0 0, .slice none 0 0, .slice none 0 0, .slice none 0 0] 28)).heap.size = w.heap.size + 2 := by simp
  generalize ((w.alloc (.cells #[.int .i64 0, .int .i64 0, .int .i64 0, .slice none 0 0, .slice none 0 0, .slice none 0 0, .slice none 0 0] 28)).alloc (.cells #[.int .i64 0, .int .i64 0, .int .i64 0, .slice none 0 0, .slice none 0 0, .slice none 0 0, .slice none 0 0] 28)) = W0 at r0 r1 q0 s0 ⊢
  have hcv := conv_bytes (rd_take (HRD.out.later q0) (m := 4) (by omega))
  have hms : ((strB (l.take 4)).toList == [70, 71, 66, 49]) = true := by
    have h := HM.out
    rw [strB_list (fun x hx => HL.out x (List.mem_of_mem_take hx))]
    exact decide_eq_true h
  generalize strB (l.take 4) = sB at hcv hms
  have d4 := rd_byte (HRD.out.later q0) (k := 4) (by omega)
  have d5 := rd_byte (HRD.out.later q0) (k := 5) (by omega)
  have d6 := rd_byte (HRD.out.later q0) (k := 6) (by omega)
  rw [add_lit a (by omega)] at d4 d5 d6
  have i4 : (4 : Int) < (n : Int) := by omega
  have i5 : (5 : Int) < (n : Int) := by omega
  have i6 : (6 : Int) < (n : Int) := by omega
  have n4 := World.new_ne W0 _ d4
  have n5 := World.new_ne W0 _ d5
  have n6 := World.new_ne W0 _ d6
  obtain ⟨W, hW⟩ : ∃ W, gW l = W := ⟨_, rfl⟩
  obtain ⟨H, hH⟩ : ∃ H, gH l = H := ⟨_, rfl⟩
  obtain ⟨T, hT⟩ : ∃ T, gT l = T := ⟨_, rfl⟩
  have hA' := HA.out
  rw [show ((l.getD 4 0 : Nat) : Int) = W from hW] at d4
  rw [show ((l.getD 5 0 : Nat) : Int) = H from hH] at d5
  rw [show ((l.getD 6 0 : Nat) : Int) = T from hT] at d6
  rw [hW, hH, hT] at hA'
  have HW := Lib.hid hW
  have HH := Lib.hid hH
  have HT := Lib.hid hT
  have HOK := Lib.hid hA'
  clear hW hH hT hA' HA
  have hb4 := getD_lt HL.out 4
  have hb5 := getD_lt HL.out 5
  have hb6 := getD_lt HL.out 6
  have hb : (0 ≤ W ∧ W ≤ 255) ∧ (0 ≤ H ∧ H ≤ 255) ∧ 0 ≤ T ∧ T ≤ 255 := by
    have h1 := HW.out; have h2 := HH.out; have h3 := HT.out
    unfold gW at h1; unfold gH at h2; unfold gT at h3
    omega
  have wW : IntKind.i64.wrap W = W := IntWalk.i64_in _ (by omega)
  have wH : IntKind.i64.wrap H = H := IntWalk.i64_in _ (by omega)
  have wT : IntKind.i64.wrap T = T := IntWalk.i64_in _ (by omega)
  go_wp2_with fail
  go_region_held3 (fun w' => w'.cell? ⟨a.block, a.off + 4, none⟩ = some (.int .u8 W) ∧ w'.cell? ⟨a.block, a.off + 5, none⟩ = some (.int .u8 H) ∧ w'.cell? ⟨a.block, a.off + 6, none⟩ = some (.int .u8 T)) (go_keep) (fail)
  have G1 : RB w (W0.alloc (.cells #[.int .i64 W, .int .i64 H, .int .i64 T] 23)).drew W H T :=
    ⟨below_drewN (below_then q0 (below_new _ _)) 1, (r0.alloc _), (r1.alloc _), by have := Blk.made W0 23 #[.int .i64 W, .int .i64 H, .int .i64 T]; rw [s0] at this; exact this⟩
  clear wW wH wT n4 n5 n6 d4 d5 d6 r0 r1 q0
  generalize (W0.alloc (.cells #[.int .i64 W, .int .i64 H, .int .i64 T] 23)).drew = W1 at G1 ⊢
  clear s0
  have G1 := Lib.hid G1
  obtain ⟨k0, k1, k2⟩ := G1.out.cells
  go_wp2_with fail
  refine (rcheck_any _ _ _ _).mono ?_
  rintro e w2 ⟨rfl, hb2⟩
  have G2 := Lib.hid (G1.out.keep hb2)
  have hce : chkE W H T = 1 := by unfold chkE; rw [if_neg HOK.out]
  rw [hce]
  clear hb2 k0 k1 k2 G1 hce
  have hx : getE l = 310 := by
    unfold getE
    rw [if_neg (by exact fun h => h.elim (fun h => by rw [HLN.out] at h; omega) (fun h => h HM.out)), if_pos (by rw [HW.out, HH.out, HT.out]; exact HOK.out)]
  have HX := Lib.hid hx
  clear hx
  obtain ⟨r0, r1, r2, r3, r4, r5, r6⟩ := zero_cells G2.out.res
  obtain ⟨s0, s1, s2, s3, s4, s5, s6⟩ := free_cells G2.out.res
  obtain ⟨t0, t1, t2, t3, t4, t5, t6⟩ := zero_cells G2.out.non
  go_wp2_with fail
  rw [← HR.out]
  exact get_err rfl l w w2 _ 310 G2.out.below G2.out.res HX.out (by decide) rfl rfl

set_option maxRecDepth 100000 in
set_option maxHeartbeats 4000000 in
theorem rget_size (a : Addr) (n c : Nat) (l : List Nat) (w : World) (hr : Rd w 1 (some a) n c (bys l)) (hl : ∀ x ∈ l, x < 256) (hn : n ≤ 5000) (hc : c ≤ maxLen) (h15 : 15 ≤ n) (hm : l.take 4 = magicB)
    (hA : okA (gW l) (gH l) (gT l)) (hz : ¬ l.length = sizeB l (gN l) + 4) : RGET (some a) n c w (GetOut l w) := by
  unfold RGET
  obtain ⟨R, hR⟩ : ∃ R, GetOut l w = R := ⟨_, rfl⟩
  rw [hR]
  have HR := Lib.hid hR
  have hln : l.length = n := by have := hr.len; rw [bys_length] at this; omega
  have hcn := hr.cap
  have HRD := Lib.hid hr
  have HL := Lib.hid hl
  have HLN := Lib.hid hln
  have hd15 : decide ((n : Int) < 15) = false := decide_eq_false (by omega)
  have HM := Lib.hid hm
  have HA := Lib.hid hA
  have HZ := Lib.hid hz
  unfold maxLen at hc
  clear hR hr hl hln hm hA hz
  go_enter Try.func20, Try.ntmps20
  go_upto_region 2 with (fail)
  have q0 : Below w.heap.size w ((w.alloc (.cells #[.int .i64 0, .int .i64 0, .int .i64 0, .slice none 0 0, .slice none 0 0, .slice none 0 0, .slice none 0 0] 28)).alloc (.cells #[.int .i64 0, .int .i64 0, .int .i64 0, .slice none 0 0, .slice none 0 0, .slice none 0 0, .slice none 0 0] 28)) := below_then (below_new w _) (below_new (w.alloc _) _)
  have r0 : Blk ((w.alloc (.cells #[.int .i64 0, .int .i64 0, .int .i64 0, .slice none 0 0, .slice none 0 0, .slice none 0 0, .slice none 0 0] 28)).alloc (.cells #[.int .i64 0, .int .i64 0, .int .i64 0, .slice none 0 0, .slice none 0 0, .slice none 0 0, .slice none 0 0] 28)) w.heap.size 28 zero7 := (Blk.made w 28 zero7).alloc _
  have r1 : Blk ((w.alloc (.cells #[.int .i64 0, .int .i64 0, .int .i64 0, .slice none 0 0, .slice none 0 0, .slice none 0 0, .slice none 0 0] 28)).alloc (.cells #[.int .i64 0, .int .i64 0, .int .i64 0, .slice none 0 0, .slice none 0 0, .slice none 0 0, .slice none 0 0] 28)) (w.heap.size + 1) 28 zero7 := by have := Blk.made (w.alloc (.cells #[.int .i64 0, .int .i64 0, .int .i64 0, .slice none 0 0, .slice none 0 0, .slice none 0 0, .slice none 0 0] 28)) 28 zero7; simpa using this
  have s0 : ((w.alloc (.cells #[.int .i64 0, .int .i64 0, .int .i64 0, .slice none 0 0, .slice none 0 0, .slice none 0 0, .slice none 0 0] 28)).alloc (.cells #[.int .i64 0, .int .i64 0, .int .i64 0, .slice none 0 0, .slice none 0 0, .slice none 0 0, .slice none 0 0] 28)).heap.size = w.heap.size + 2 := by simp
  generalize ((w.alloc (.cells #[.int .i64 0, .int .i64 0, .int .i64 0, .slice none 0 0, .slice none 0 0, .slice none 0 0, .slice none 0 0] 28)).alloc (.cells #[.int .i64 0, .int .i64 0, .int .i64 0, .slice none 0 0, .slice none 0 0, .slice none 0 0, .slice none 0 0] 28)) = W0 at r0 r1 q0 s0 ⊢
  have hcv := conv_bytes (rd_take (HRD.out.later q0) (m := 4) (by omega))
  have hms : ((strB (l.take 4)).toList == [70, 71, 66, 49]) = true := by
    have h := HM.out
    rw [strB_list (fun x hx => HL.out x (List.mem_of_mem_take hx))]
    exact decide_eq_true h
  generalize strB (l.take 4) = sB at hcv hms
  have d4 := rd_byte (HRD.out.later q0) (k := 4) (by omega)
  have d5 := rd_byte (HRD.out.later q0) (k := 5) (by omega)
  have d6 := rd_byte (HRD.out.later q0) (k := 6) (by omega)
  rw [add_lit a (by omega)] at d4 d5 d6
  have i4 : (4 : Int) < (n : Int) := by omega
  have i5 : (5 : Int) < (n : Int) := by omega
  have i6 : (6 : Int) < (n : Int) := by omega
  have n4 := World.new_ne W0 _ d4
  have n5 := World.new_ne W0 _ d5
  have n6 := World.new_ne W0 _ d6
  obtain ⟨W, hW⟩ : ∃ W, gW l = W := ⟨_, rfl⟩
  obtain ⟨H, hH⟩ : ∃ H, gH l = H := ⟨_, rfl⟩
  obtain ⟨T, hT⟩ : ∃ T, gT l = T := ⟨_, rfl⟩
  have hA' := HA.out
  rw [show ((l.getD 4 0 : Nat) : Int) = W from hW] at d4
  rw [show ((l.getD 5 0 : Nat) : Int) = H from hH] at d5
  rw [show ((l.getD 6 0 : Nat) : Int) = T from hT] at d6
  rw [hW, hH, hT] at hA'
  have HW := Lib.hid hW
  have HH := Lib.hid hH
  have HT := Lib.hid hT
  have HOK := Lib.hid hA'
  clear hW hH hT hA' HA
  have hb := HOK.out
  unfold okA at hb
  have wW : IntKind.i64.wrap W = W := IntWalk.i64_in _ (by omega)
  have wH : IntKind.i64.wrap H = H := IntWalk.i64_in _ (by omega)
  have wT : IntKind.i64.wrap T = T := IntWalk.i64_in _ (by omega)
  go_wp2_with fail
  go_region_held3 (fun w' => w'.cell? ⟨a.block, a.off + 4, none⟩ = some (.int .u8 W) ∧ w'.cell? ⟨a.block, a.off + 5, none⟩ = some (.int .u8 H) ∧ w'.cell? ⟨a.block, a.off + 6, none⟩ = some (.int .u8 T)) (go_keep) (fail)
  have G1 : RB w (W0.alloc (.cells #[.int .i64 W, .int .i64 H, .int .i64 T] 23)).drew W H T :=
    ⟨below_drewN (below_then q0 (below_new _ _)) 1, (r0.alloc _), (r1.alloc _), by have := Blk.made W0 23 #[.int .i64 W, .int .i64 H, .int .i64 T]; rw [s0] at this; exact this⟩
  clear wW wH wT n4 n5 n6 d4 d5 d6 r0 r1 q0
  generalize (W0.alloc (.cells #[.int .i64 W, .int .i64 H, .int .i64 T] 23)).drew = W1 at G1 ⊢
  clear s0
  have G1 := Lib.hid G1
  obtain ⟨k0, k1, k2⟩ := G1.out.cells
  go_wp2_with fail
  refine (rcheck_any _ _ _ _).mono ?_
  rintro e w2 ⟨rfl, hb2⟩
  have G2 := Lib.hid (G1.out.keep hb2)
  have hce : chkE W H T = 0 := by unfold chkE; rw [if_pos HOK.out]
  rw [hce]
  clear hb2 k0 k1 k2 G1 hce
  have HU7 := Lib.hid (fun W : World => fun hW : Below w.heap.size w W => rnumber_any W (some a) n c l 7 (HRD.out.later hW) HL.out (by omega) (by omega))
  have HU9 := Lib.hid (fun W : World => fun hW : Below w.heap.size w W => rnumber_any W (some a) n c l 9 (HRD.out.later hW) HL.out (by omega) (by omega))
  go_wp2_with fail
  refine (HU7.out _ G2.out.below).mono ?_
  rintro e w3 ⟨rfl, hb3⟩
  have G3 := Lib.hid (G2.out.keep hb3)
  clear hb3 G2 HU7
  go_wp2_with fail
  refine (HU9.out _ G3.out.below).mono ?_
  rintro e w4 ⟨rfl, hb4⟩
  have G4 := Lib.hid (G3.out.keep hb4)
  clear hb4 G3 HU9
  obtain ⟨k0, k1, k2⟩ := G4.out.cells
  go_wp2_with fail
  refine (rswitches_yes _ _ _ _ HOK.out).mono ?_
  rintro e w5 ⟨rfl, hb5⟩
  have hne : (edgesL W H T).length = gN l := by unfold gN; rw [HW.out, HH.out, HT.out]
  obtain ⟨N, hN⟩ : ∃ N, gN l = N := ⟨_, rfl⟩
  have HN := Lib.hid hN
  have hN6 : N ≤ 6000000 := by rw [← hN, ← hne]; unfold edgesL; rw [sortP_length]; exact rawL_len HOK.out
  rw [hne, hN]
  have G5 := Lib.hid (G4.out.keep hb5)
  clear hb5 G4 k0 k1 k2 hne hN
  obtain ⟨k0, k1, k2⟩ := G5.out.cells
  have hwh := gT_mul l
  rw [HW.out, HH.out] at hwh
  obtain ⟨nt, hnt⟩ : ∃ nt, nT l = nt := ⟨_, rfl⟩
  obtain ⟨ni, hni⟩ : ∃ ni, num2 l 7 = ni := ⟨_, rfl⟩
  obtain ⟨nu, hnu⟩ : ∃ nu, num2 l 9 = nu := ⟨_, rfl⟩
  have hni2 := num2_lt HL.out 7
  have hnu2 := num2_lt HL.out 9
  rw [hni] at hni2
  rw [hnu] at hnu2
  have hsz : sizeB l N = 11 + 3 * nt + (N + 7) / 8 + 2 * (ni + nu) := by unfold sizeB atP atS nI nU; rw [hni, hnu, hnt]
  rw [hnt] at hwh
  rw [hni, hnu]
  have HNT := Lib.hid hnt
  have HNI := Lib.hid hni
  have HNU := Lib.hid hnu
  have hnt2 : nt ≤ 256 := by
    have h1 : W * H ≤ 16 * 16 := Int.mul_le_mul (by omega) (by omega) (by omega) (by omega)
    omega
  have hw3 : 3 * W * H = 3 * (nt : Int) := by rw [Int.mul_assoc, hwh]
  clear hnt hni hnu
  obtain ⟨e, he⟩ : ∃ e, sizeB l N = e := ⟨_, rfl⟩
  rw [he] at hsz
  have hee : 11 + 3 * (nt : Int) + ((N : Int) + 7) / 8 + 2 * (ni : Int) + 2 * (nu : Int) = (e : Int) := by omega
  have HE := Lib.hid he
  have HSZ := Lib.hid hsz
  clear he
  have hd10 : ((n : Int) != (e : Int) + 4) = true := by
    have h := HZ.out
    rw [HLN.out, HN.out, HE.out] at h
    rw [bne_iff_ne]; omega
  have hx : getE l = 310 := by
    unfold getE
    rw [if_neg (by exact fun h => h.elim (fun h => by rw [HLN.out] at h; omega) (fun h => h HM.out)), if_neg (by rw [HW.out, HH.out, HT.out]; exact fun h => h HOK.out), if_pos HZ.out]
  have HX := Lib.hid hx
  clear hx hsz
  obtain ⟨r0, r1, r2, r3, r4, r5, r6⟩ := zero_cells G5.out.res
  obtain ⟨s0, s1, s2, s3, s4, s5, s6⟩ := free_cells G5.out.res
  obtain ⟨t0, t1, t2, t3, t4, t5, t6⟩ := zero_cells G5.out.non
  go_wp2_with fail
  rw [← HR.out]
  exact get_err rfl l w w5 _ 310 G5.out.below G5.out.res HX.out (by decide) rfl rfl

set_option maxRecDepth 100000 in
set_option maxHeartbeats 4000000 in
theorem rget_sum (a : Addr) (n c : Nat) (l : List Nat) (w : World) (hr : Rd w 1 (some a) n c (bys l)) (hl : ∀ x ∈ l, x < 256) (hn : n ≤ 5000) (hc : c ≤ maxLen) (h15 : 15 ≤ n) (hm : l.take 4 = magicB)
    (hA : okA (gW l) (gH l) (gT l)) (hz : l.length = sizeB l (gN l) + 4) (hs : ¬ l.drop (sizeB l (gN l)) = four (sumB (l.take (sizeB l (gN l))))) : RGET (some a) n c w (GetOut l w) := by
  unfold RGET
  obtain ⟨R, hR⟩ : ∃ R, GetOut l w = R := ⟨_, rfl⟩
  rw [hR]
  have HR := Lib.hid hR
  have hln : l.length = n := by have := hr.len; rw [bys_length] at this; omega
  have hcn := hr.cap
  have HRD := Lib.hid hr
  have HL := Lib.hid hl
  have HLN := Lib.hid hln
  have hd15 : decide ((n : Int) < 15) = false := decide_eq_false (by omega)
  have HM := Lib.hid hm
  have HA := Lib.hid hA
  have HZ := Lib.hid hz
  have HS := Lib.hid hs
  unfold maxLen at hc
  clear hR hr hl hln hm hA hz hs
  go_enter Try.func20, Try.ntmps20
  go_upto_region 2 with (fail)
  have q0 : Below w.heap.size w ((w.alloc (.cells #[.int .i64 0, .int .i64 0, .int .i64 0, .slice none 0 0, .slice none 0 0, .slice none 0 0, .slice none 0 0] 28)).alloc (.cells #[.int .i64 0, .int .i64 0, .int .i64 0, .slice none 0 0, .slice none 0 0, .slice none 0 0, .slice none 0 0] 28)) := below_then (below_new w _) (below_new (w.alloc _) _)
  have r0 : Blk ((w.alloc (.cells #[.int .i64 0, .int .i64 0, .int .i64 0, .slice none 0 0, .slice none 0 0, .slice none 0 0, .slice none 0 0] 28)).alloc (.cells #[.int .i64 0, .int .i64 0, .int .i64 0, .slice none 0 0, .slice none 0 0, .slice none 0 0, .slice none 0 0] 28)) w.heap.size 28 zero7 := (Blk.made w 28 zero7).alloc _
  have r1 : Blk ((w.alloc (.cells #[.int .i64 0, .int .i64 0, .int .i64 0, .slice none 0 0, .slice none 0 0, .slice none 0 0, .slice none 0 0] 28)).alloc (.cells #[.int .i64 0, .int .i64 0, .int .i64 0, .slice none 0 0, .slice none 0 0, .slice none 0 0, .slice none 0 0] 28)) (w.heap.size + 1) 28 zero7 := by have := Blk.made (w.alloc (.cells #[.int .i64 0, .int .i64 0, .int .i64 0, .slice none 0 0, .slice none 0 0, .slice none 0 0, .slice none 0 0] 28)) 28 zero7; simpa using this
  have s0 : ((w.alloc (.cells #[.int .i64 0, .int .i64 0, .int .i64 0, .slice none 0 0, .slice none 0 0, .slice none 0 0, .slice none 0 0] 28)).alloc (.cells #[.int .i64 0, .int .i64 0, .int .i64 0, .slice none 0 0, .slice none 0 0, .slice none 0 0, .slice none 0 0] 28)).heap.size = w.heap.size + 2 := by simp
  generalize ((w.alloc (.cells #[.int .i64 0, .int .i64 0, .int .i64 0, .slice none 0 0, .slice none 0 0, .slice none 0 0, .slice none 0 0] 28)).alloc (.cells #[.int .i64 0, .int .i64 0, .int .i64 0, .slice none 0 0, .slice none 0 0, .slice none 0 0, .slice none 0 0] 28)) = W0 at r0 r1 q0 s0 ⊢
  have hcv := conv_bytes (rd_take (HRD.out.later q0) (m := 4) (by omega))
  have hms : ((strB (l.take 4)).toList == [70, 71, 66, 49]) = true := by
    have h := HM.out
    rw [strB_list (fun x hx => HL.out x (List.mem_of_mem_take hx))]
    exact decide_eq_true h
  generalize strB (l.take 4) = sB at hcv hms
  have d4 := rd_byte (HRD.out.later q0) (k := 4) (by omega)
  have d5 := rd_byte (HRD.out.later q0) (k := 5) (by omega)
  have d6 := rd_byte (HRD.out.later q0) (k := 6) (by omega)
  rw [add_lit a (by omega)] at d4 d5 d6
  have i4 : (4 : Int) < (n : Int) := by omega
  have i5 : (5 : Int) < (n : Int) := by omega
  have i6 : (6 : Int) < (n : Int) := by omega
  have n4 := World.new_ne W0 _ d4
  have n5 := World.new_ne W0 _ d5
  have n6 := World.new_ne W0 _ d6
  obtain ⟨W, hW⟩ : ∃ W, gW l = W := ⟨_, rfl⟩
  obtain ⟨H, hH⟩ : ∃ H, gH l = H := ⟨_, rfl⟩
  obtain ⟨T, hT⟩ : ∃ T, gT l = T := ⟨_, rfl⟩
  have hA' := HA.out
  rw [show ((l.getD 4 0 : Nat) : Int) = W from hW] at d4
  rw [show ((l.getD 5 0 : Nat) : Int) = H from hH] at d5
  rw [show ((l.getD 6 0 : Nat) : Int) = T from hT] at d6
  rw [hW, hH, hT] at hA'
  have HW := Lib.hid hW
  have HH := Lib.hid hH
  have HT := Lib.hid hT
  have HOK := Lib.hid hA'
  clear hW hH hT hA' HA
  have hb := HOK.out
  unfold okA at hb
  have wW : IntKind.i64.wrap W = W := IntWalk.i64_in _ (by omega)
  have wH : IntKind.i64.wrap H = H := IntWalk.i64_in _ (by omega)
  have wT : IntKind.i64.wrap T = T := IntWalk.i64_in _ (by omega)
  go_wp2_with fail
  go_region_held3 (fun w' => w'.cell? ⟨a.block, a.off + 4, none⟩ = some (.int .u8 W) ∧ w'.cell? ⟨a.block, a.off + 5, none⟩ = some (.int .u8 H) ∧ w'.cell? ⟨a.block, a.off + 6, none⟩ = some (.int .u8 T)) (go_keep) (fail)
  have G1 : RB w (W0.alloc (.cells #[.int .i64 W, .int .i64 H, .int .i64 T] 23)).drew W H T :=
    ⟨below_drewN (below_then q0 (below_new _ _)) 1, (r0.alloc _), (r1.alloc _), by have := Blk.made W0 23 #[.int .i64 W, .int .i64 H, .int .i64 T]; rw [s0] at this; exact this⟩
  clear wW wH wT n4 n5 n6 d4 d5 d6 r0 r1 q0
  generalize (W0.alloc (.cells #[.int .i64 W, .int .i64 H, .int .i64 T] 23)).drew = W1 at G1 ⊢
  clear s0
  have G1 := Lib.hid G1
  obtain ⟨k0, k1, k2⟩ := G1.out.cells
  go_wp2_with fail
  refine (rcheck_any _ _ _ _).mono ?_
  rintro e w2 ⟨rfl, hb2⟩
  have G2 := Lib.hid (G1.out.keep hb2)
  have hce : chkE W H T = 0 := by unfold chkE; rw [if_pos HOK.out]
  rw [hce]
  clear hb2 k0 k1 k2 G1 hce
  have HU7 := Lib.hid (fun W : World => fun hW : Below w.heap.size w W => rnumber_any W (some a) n c l 7 (HRD.out.later hW) HL.out (by omega) (by omega))
  have HU9 := Lib.hid (fun W : World => fun hW : Below w.heap.size w W => rnumber_any W (some a) n c l 9 (HRD.out.later hW) HL.out (by omega) (by omega))
  go_wp2_with fail
  refine (HU7.out _ G2.out.below).mono ?_
  rintro e w3 ⟨rfl, hb3⟩
  have G3 := Lib.hid (G2.out.keep hb3)
  clear hb3 G2 HU7
  go_wp2_with fail
  refine (HU9.out _ G3.out.below).mono ?_
  rintro e w4 ⟨rfl, hb4⟩
  have G4 := Lib.hid (G3.out.keep hb4)
  clear hb4 G3 HU9
  obtain ⟨k0, k1, k2⟩ := G4.out.cells
  go_wp2_with fail
  refine (rswitches_yes _ _ _ _ HOK.out).mono ?_
  rintro e w5 ⟨rfl, hb5⟩
  have hne : (edgesL W H T).length = gN l := by unfold gN; rw [HW.out, HH.out, HT.out]
  obtain ⟨N, hN⟩ : ∃ N, gN l = N := ⟨_, rfl⟩
  have HN := Lib.hid hN
  have hN6 : N ≤ 6000000 := by rw [← hN, ← hne]; unfold edgesL; rw [sortP_length]; exact rawL_len HOK.out
  rw [hne, hN]
  have G5 := Lib.hid (G4.out.keep hb5)
  clear hb5 G4 k0 k1 k2 hne hN
  obtain ⟨k0, k1, k2⟩ := G5.out.cells
  have hwh := gT_mul l
  rw [HW.out, HH.out] at hwh
  obtain ⟨nt, hnt⟩ : ∃ nt, nT l = nt := ⟨_, rfl⟩
  obtain ⟨ni, hni⟩ : ∃ ni, num2 l 7 = ni := ⟨_, rfl⟩
  obtain ⟨nu, hnu⟩ : ∃ nu, num2 l 9 = nu := ⟨_, rfl⟩
  have hni2 := num2_lt HL.out 7
  have hnu2 := num2_lt HL.out 9
  rw [hni] at hni2
  rw [hnu] at hnu2
  have hsz : sizeB l N = 11 + 3 * nt + (N + 7) / 8 + 2 * (ni + nu) := by unfold sizeB atP atS nI nU; rw [hni, hnu, hnt]
  rw [hnt] at hwh
  rw [hni, hnu]
  have HNT := Lib.hid hnt
  have HNI := Lib.hid hni
  have HNU := Lib.hid hnu
  have hnt2 : nt ≤ 256 := by
    have h1 : W * H ≤ 16 * 16 := Int.mul_le_mul (by omega) (by omega) (by omega) (by omega)
    omega
  have hw3 : 3 * W * H = 3 * (nt : Int) := by rw [Int.mul_assoc, hwh]
  clear hnt hni hnu
  obtain ⟨e, he⟩ : ∃ e, sizeB l N = e := ⟨_, rfl⟩
  rw [he] at hsz
  have hee : 11 + 3 * (nt : Int) + ((N : Int) + 7) / 8 + 2 * (ni : Int) + 2 * (nu : Int) = (e : Int) := by omega
  have HE := Lib.hid he
  have HSZ := Lib.hid hsz
  clear he
  have hd10 : ((n : Int) != (e : Int) + 4) = false := by
    have h := HZ.out
    rw [HLN.out, HN.out, HE.out] at h
    rw [bne_eq_false_iff_eq]; omega
  have hen : n = e + 4 := by
    have h := HZ.out
    rwa [HLN.out, HN.out, HE.out] at h
  have hen1 : e + 4 ≤ n := by omega
  have hen2 : n ≤ e + 4 := by omega
  clear hen
  have he1 : (e : Int) ≤ (n : Int) := by omega
  have he2 : (e : Int) ≤ (c : Int) := by omega
  have he0 : (0 : Int) ≤ (e : Int) := by omega
  have hce : ¬ c = e := by omega
  obtain ⟨F, hF⟩ : ∃ F, four (sumB (l.take e)) = F := ⟨_, rfl⟩
  have HTL := Lib.hid (fun (W : World) (hW : Below w.heap.size w W) => rtail_any W (some a) e c (l.take e) (rd_take (HRD.out.later hW) (by omega)) (fun x hx => HL.out x (List.mem_of_mem_take hx)) (by omega))
  rw [hF] at HTL
  have hF4 : F.length = 4 := by rw [← hF]; rfl
  have hF2 : ∀ x ∈ F, x < 256 := by rw [← hF]; exact four_lt _
  have hdr : (l.drop e).take 4 = l.drop e := List.take_of_length_le (by rw [List.length_drop, HLN.out]; omega)
  have HCV := Lib.hid (fun (W : World) (hW : Below w.heap.size w W) => conv_bytes (rd_cut (HRD.out.later hW) (k := e) (m := 4) (by omega) (by omega)))
  have HCF := Lib.hid (fun (W : World) (A : Option Addr) (n c : Nat) (h : Rd W 1 A n c (bys F)) => conv_bytes h)
  have hneq : ((strB F).toList == (strB (l.drop e)).toList) = false := by
    have h := HS.out
    rw [HN.out, HE.out, hF] at h
    rw [strB_lists hF2 (fun x hx => HL.out x (List.mem_of_mem_drop hx))]
    exact decide_eq_false (fun e' => h e'.symm)
  have HF := Lib.hid hF
  rw [hdr] at HCV
  generalize strB F = sF at HCF hneq
  generalize strB (l.drop e) = sC at HCV hneq
  have HNE := Lib.hid hneq
  have h4 : n - e = 4 := by omega
  clear hF hF2 hdr hneq hsz
  go_wp2_with fail
  refine wp_region_held_drew (S := (fun w2 => (convert 34 9 (.slice (some (a.add e)) 4 (c - e))).run Try.prog w2 = .ok (.string sC) w2)) (by kernel_rfl) ?_ (fun hHeld => ?_)
  · first | exact HCV.out _ (below_drewN G5.out.below 1) | exact HCV.out _ G6.out.below
  refine wpAnyH_take (i := 0) (oi := { dst := some 73, op := Op.move (Operand.tmp 0), type := 34, pos := _, after := #[], guard := none }) (v := ?_) rfl (by kernel_rfl) (by kernel_rfl) (by kernel_rfl) (fun _ _ _ h => h) (Or.inl ⟨by rfl, ?_⟩) (by assumption) ?_
  rotate_left
  · intro w hSw; (try dsimp only at hSw); go_simp; (try with_reducible rfl)
  try simp only [Act.put, List.setIfInBounds_toArray, List.set_cons_zero, List.set_cons_succ]
  refine wpAnyH_take (i := 1) (oi := { dst := some 74, op := Op.move (Operand.tmp 9), type := 3, pos := _, after := #[], guard := none }) (v := ?_) rfl (by kernel_rfl) (by kernel_rfl) (by kernel_rfl) (fun _ _ _ h => h) (Or.inl ⟨by rfl, ?_⟩) (by assumption) ?_
  rotate_left
  · intro w hSw; (try dsimp only at hSw); go_simp; (try with_reducible rfl)
  try simp only [Act.put, List.setIfInBounds_toArray, List.set_cons_zero, List.set_cons_succ]
  refine wpAnyH_take (i := 2) (oi := { dst := some 75, op := Op.slice 34 (Operand.tmp 73) none (some (Operand.tmp 74)) none, type := 34, pos := _, after := #[{ on := 0, ground := Ground.data }, { on := 1, ground := Ground.data }], guard := none }) (v := ?_) rfl (by kernel_rfl) (by kernel_rfl) (by kernel_rfl) (fun _ _ _ h => h) (Or.inl ⟨by rfl, ?_⟩) (by assumption) ?_
  rotate_left
  · intro w hSw; (try dsimp only at hSw); go_simp; (try with_reducible rfl)
  try simp only [Act.put, List.setIfInBounds_toArray, List.set_cons_zero, List.set_cons_succ]
  refine wpAnyH_take (i := 5) (oi := { dst := some 78, op := Op.move (Operand.tmp 0), type := 34, pos := _, after := #[], guard := none }) (v := ?_) rfl (by kernel_rfl) (by kernel_rfl) (by kernel_rfl) (fun _ _ _ h => h) (Or.inl ⟨by rfl, ?_⟩) (by assumption) ?_
  rotate_left
  · intro w hSw; (try dsimp only at hSw); go_simp; (try with_reducible rfl)
  try simp only [Act.put, List.setIfInBounds_toArray, List.set_cons_zero, List.set_cons_succ]
  refine wpAnyH_take (i := 6) (oi := { dst := some 79, op := Op.move (Operand.tmp 9), type := 3, pos := _, after := #[], guard := none }) (v := ?_) rfl (by kernel_rfl) (by kernel_rfl) (by kernel_rfl) (fun _ _ _ h => h) (Or.inl ⟨by rfl, ?_⟩) (by assumption) ?_
  rotate_left
  · intro w hSw; (try dsimp only at hSw); go_simp; (try with_reducible rfl)
  try simp only [Act.put, List.setIfInBounds_toArray, List.set_cons_zero, List.set_cons_succ]
  refine wpAnyH_take (i := 7) (oi := { dst := some 80, op := Op.slice 34 (Operand.tmp 78) (some (Operand.tmp 79)) none none, type := 34, pos := _, after := #[{ on := 5, ground := Ground.data }, { on := 6, ground := Ground.data }], guard := none }) (v := ?_) rfl (by kernel_rfl) (by kernel_rfl) (by kernel_rfl) (fun _ _ _ h => h) (Or.inl ⟨by rfl, ?_⟩) (by assumption) ?_
  rotate_left
  · intro w hSw; (try dsimp only at hSw); go_simp; (try with_reducible rfl)
  try simp only [Act.put, List.setIfInBounds_toArray, List.set_cons_zero, List.set_cons_succ]
  refine wpAnyH_take (i := 8) (oi := { dst := some 81, op := Op.convert 34 9 (Operand.tmp 80), type := 9, pos := _, after := #[{ on := 7, ground := Ground.data }], guard := none }) (v := ?_) rfl (by kernel_rfl) (by kernel_rfl) (by kernel_rfl) (fun _ _ _ h => h) (Or.inl ⟨by rfl, ?_⟩) (by assumption) ?_
  rotate_left
  · intro w hSw; (try dsimp only at hSw); go_simp; (try with_reducible rfl)
  try simp only [Act.put, List.setIfInBounds_toArray, List.set_cons_zero, List.set_cons_succ]
  refine wpAnyH_ready (rs := [3]) (by kernel_rfl) (by simp) ?_
  refine AllReadyH.cons (o := { dst := some 76, op := Op.call { callee := Callee.value (Operand.func 55), args := #[Operand.tmp 75], argTypes := #[34] }, type := 34, pos := _, after := #[{ on := 2, ground := Ground.data }], guard := none }) rfl (fun K hK => ?_) AllReadyH.nil
  go_simp
  with_reducible refine (HTL.out _ ?_).mono ?_
  · exact below_drewN G5.out.below 1
  rintro e6 w6 ⟨A6, c6, rfl, hb6, ho6⟩
  have hcv6 := HCF.out w6 _ _ _ (Rd.of_own ho6)
  rw [hF4] at hcv6
  have G6 := Lib.hid ((G5.out.keep (below_drewN (Below.refl _ _) 1)).keep hb6)
  refine hK.out _ _ ?_ (fun hHeld => ?_)
  · first | exact HCV.out _ (below_drewN G5.out.below 1) | exact HCV.out _ G6.out.below
  clear hK K
  try simp only [Act.put, List.setIfInBounds_toArray, List.set_cons_zero, List.set_cons_succ]
  refine wpAnyH_ready (rs := [4]) (by kernel_rfl) (by simp) ?_
  refine AllReadyH.cons (o := { dst := some 77, op := Op.convert 34 9 (Operand.tmp 76), type := 9, pos := _, after := #[{ on := 3, ground := Ground.data }], guard := none }) rfl (fun K hK => ?_) AllReadyH.nil
  go_simp
  refine hK.out _ _ ?_ (fun hHeld => ?_)
  · first | exact HCV.out _ (below_drewN G5.out.below 1) | exact HCV.out _ G6.out.below
  clear hK K
  try simp only [Act.put, List.setIfInBounds_toArray, List.set_cons_zero, List.set_cons_succ]
  refine wpAnyH_ready (rs := [9]) (by kernel_rfl) (by simp) ?_
  refine AllReadyH.cons (o := { dst := some 82, op := Op.binOp BinOp.neq 9 (Operand.tmp 77) (Operand.tmp 81) 9, type := 4, pos := _, after := #[{ on := 4, ground := Ground.data }, { on := 8, ground := Ground.data }], guard := none }) rfl (fun K hK => ?_) AllReadyH.nil
  go_simp
  rw [HNE.out]
  simp only [Bool.not_true, Bool.not_false]
  refine hK.out _ _ ?_ (fun hHeld => ?_)
  · first | exact HCV.out _ (below_drewN G5.out.below 1) | exact HCV.out _ G6.out.below
  clear hK K
  try simp only [Act.put, List.setIfInBounds_toArray, List.set_cons_zero, List.set_cons_succ]
  refine wpAnyH_done (by kernel_rfl) ?_ _
  clear G5 hcv6 ho6 hb6 HCV HCF HTL HNE hHeld k0 k1 k2
  obtain ⟨k0, k1, k2⟩ := G6.out.cells
  have hx : getE l = 311 := by
    unfold getE
    rw [if_neg (by exact fun h => h.elim (fun h => by rw [HLN.out] at h; omega) (fun h => h HM.out)), if_neg (by rw [HW.out, HH.out, HT.out]; exact fun h => h HOK.out), if_neg (fun h => h HZ.out), if_pos HS.out]
  have HX := Lib.hid hx
  clear hx
  obtain ⟨r0, r1, r2, r3, r4, r5, r6⟩ := zero_cells G6.out.res
  obtain ⟨s0, s1, s2, s3, s4, s5, s6⟩ := free_cells G6.out.res
  obtain ⟨t0, t1, t2, t3, t4, t5, t6⟩ := zero_cells G6.out.non
  go_wp2_with fail
  rw [← HR.out]
  exact get_err rfl l w w6 _ 311 G6.out.below G6.out.res HX.out (by decide) rfl rfl
end Go.Proofs.Ytoloaecbfglaeaa
