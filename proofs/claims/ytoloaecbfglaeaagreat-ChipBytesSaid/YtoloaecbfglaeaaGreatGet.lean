/- Walk of filigree/bitfile.Get: bytes as a configuration. -/
import Derived.Test.YtoloaecbfglaeaaGreatGetL
import Derived.Deep.RegionHeld3
import Derived.Deep.QuietTactic
import Derived.BigQuiet
import Derived.IntWalk
namespace Go.Proofs.YtoloaecbfglaeaaGreat
open Go.RowKit Go.Shelf
set_option linter.unusedVariables false
set_option linter.unusedSimpArgs false
attribute [local go_sem] Oper.semAt_some

set_option maxRecDepth 100000 in
set_option maxHeartbeats 8000000 in
theorem bget_long (a : Addr) (n c : Nat) (l : List Nat) (w : World) (hr : Rd w 1 (some a) n c (bys l)) (hl : ∀ x ∈ l, x < 256) (hn : n ≤ 5000) (hc : c ≤ maxLen) (h15 : 15 ≤ n) (hm : l.take 4 = magicB)
    (hA : okA (gW l) (gH l) (gT l)) (hsz : n = sizeB l (gN l) + 4) (hsum : l.drop (sizeB l (gN l)) = four (sumB (l.take (sizeB l (gN l))))) : BGET (some a) n c w (GetOut l w) := by
  unfold BGET
  obtain ⟨R, hR⟩ : ∃ R, GetOut l w = R := ⟨_, rfl⟩
  rw [hR]
  have HR := Lib.hid hR
  have hln : l.length = n := by have := hr.len; rw [bys_length] at this; omega
  have hcn := hr.cap
  have HRD := Lib.hid hr
  have HL := Lib.hid hl
  have HLN := Lib.hid hln
  have hcv := conv_bytes (hr.later (below_new w (.cells #[.int .i64 0, .int .i64 0, .int .i64 0, .slice none 0 0, .slice none 0 0, .slice none 0 0, .slice none 0 0] 28)))
  have HP := Lib.hid (fun W : World => prefix_any l hl W (by omega) (by omega) true (decide_eq_true hm))
  have hd15 : decide ((n : Int) < 15) = false := decide_eq_false (by omega)
  generalize strB l = sB at hcv HP
  have HM := Lib.hid hm
  have HS := Lib.hid hsum
  have HZ := Lib.hid hsz
  have HA := Lib.hid hA
  unfold maxLen at hc
  clear hR hr hl hln hm hsum hsz hA
  go_enter Tryz.func21, Tryz.ntmps21
  go_wp2_with fail
  refine (HP.out _).mono ?_
  rintro e w1 ⟨rfl, rfl⟩
  clear hcv HP
  have r0 := Blk.made w 28 #[.int .i64 0, .int .i64 0, .int .i64 0, .slice none 0 0, .slice none 0 0, .slice none 0 0, .slice none 0 0]
  have q0 := below_new w (.cells #[.int .i64 0, .int .i64 0, .int .i64 0, .slice none 0 0, .slice none 0 0, .slice none 0 0, .slice none 0 0] 28)
  have s0 : (w.alloc (.cells #[.int .i64 0, .int .i64 0, .int .i64 0, .slice none 0 0, .slice none 0 0, .slice none 0 0, .slice none 0 0] 28)).heap.size = w.heap.size + 1 := by simp
  go_wp2_with fail
  generalize w.alloc (.cells #[.int .i64 0, .int .i64 0, .int .i64 0, .slice none 0 0, .slice none 0 0, .slice none 0 0, .slice none 0 0] 28) = W0 at r0 q0 s0 ⊢
  have d4 := rd_byte (HRD.out.later q0) (k := 4) (by omega)
  have d5 := rd_byte (HRD.out.later q0) (k := 5) (by omega)
  have d6 := rd_byte (HRD.out.later q0) (k := 6) (by omega)
  rw [add_lit a (by omega)] at d4 d5 d6
  have i4 : (4 : Int) < (n : Int) := by omega
  have i5 : (5 : Int) < (n : Int) := by omega
  have i6 : (6 : Int) < (n : Int) := by omega
  have n4 := World.new_ne W0 _ d4
  have n5 := World.new_ne W0 _ d5
  have n6 := World.new_ne W0 _ d6
  obtain ⟨W, hW⟩ : ∃ W, gW l = W := ⟨_, rfl⟩
  obtain ⟨H, hH⟩ : ∃ H, gH l = H := ⟨_, rfl⟩
  obtain ⟨T, hT⟩ : ∃ T, gT l = T := ⟨_, rfl⟩
  have hA' := HA.out
  rw [show ((l.getD 4 0 : Nat) : Int) = W from hW] at d4
  rw [show ((l.getD 5 0 : Nat) : Int) = H from hH] at d5
  rw [show ((l.getD 6 0 : Nat) : Int) = T from hT] at d6
  rw [hW, hH, hT] at hA'
  have HW := Lib.hid hW
  have HH := Lib.hid hH
  have HT := Lib.hid hT
  have HOK := Lib.hid hA'
  clear hW hH hT hA' HA
  have hb := HOK.out
  unfold okA at hb
  have wW : IntKind.i64.wrap W = W := IntWalk.i64_in _ (by omega)
  have wH : IntKind.i64.wrap H = H := IntWalk.i64_in _ (by omega)
  have wT : IntKind.i64.wrap T = T := IntWalk.i64_in _ (by omega)
  go_region_held3 (fun w' => w'.cell? ⟨a.block, a.off + 4, none⟩ = some (.int .u8 W) ∧ w'.cell? ⟨a.block, a.off + 5, none⟩ = some (.int .u8 H) ∧ w'.cell? ⟨a.block, a.off + 6, none⟩ = some (.int .u8 T)) (go_keep) (fail)
  have G1 := GW.start (W := W) (H := H) (T := T) q0 r0 s0
  clear wW wH wT n4 n5 n6 d4 d5 d6 r0 q0
  generalize (W0.alloc (.cells #[.int .i64 W, .int .i64 H, .int .i64 T, .slice none 0 0, .slice none 0 0, .slice none 0 0, .slice none 0 0] 28)).drew = W1 at G1 ⊢
  clear s0
  obtain ⟨gc, hgc⟩ : ∃ gc, w.heap.size + 1 = gc := ⟨_, rfl⟩
  rw [hgc] at G1 ⊢
  clear hgc
  have G1 := Lib.hid G1
  have k0 := G1.out.box.cell 0
  have k1 := G1.out.box.cell 1
  have k2 := G1.out.box.cell 2
  simp [Cfg.cells, cfg0] at k0 k1 k2
  go_wp2_with fail
  refine (check_yes _ _ _ _ HOK.out).mono ?_
  rintro e w2 ⟨rfl, hb2⟩
  have G2 := Lib.hid (G1.out.keep hb2)
  clear hb2 k0 k1 k2 G1
  have k0 := G2.out.box.cell 0
  have k1 := G2.out.box.cell 1
  have k2 := G2.out.box.cell 2
  simp [Cfg.cells, cfg0] at k0 k1 k2
  go_wp2_with fail
  refine (edges_yes _ _ _ _ HOK.out).mono ?_
  rintro e w3 ⟨v, rfl, hb3, hown⟩
  have hne : (edgesL W H T).length = gN l := by unfold gN; rw [HW.out, HH.out, HT.out]
  obtain ⟨N, hN⟩ : ∃ N, gN l = N := ⟨_, rfl⟩
  have HN := Lib.hid hN
  have hN6 : N ≤ 6000000 := by rw [← hN, ← hne]; unfold edgesL; rw [sortP_length]; exact rawL_len HOK.out
  rw [hne, hN] at hown
  obtain ⟨AE, cE, rfl⟩ := own_slice hown
  have G3 := Lib.hid (G2.out.keep hb3)
  clear hown hb3 G2 k0 k1 k2 hne hN
  have k0 := G3.out.box.cell 0
  have k1 := G3.out.box.cell 1
  simp [Cfg.cells, cfg0] at k0 k1
  have HU7 := Lib.hid (fun k : Nat => bnum2 (w3.drewN k) a n c l (HRD.out.later (below_drewN G3.out.below k)) HL.out (by omega) 7 (by omega) _ (add_lit a (by omega)).symm)
  have HU9 := Lib.hid (fun k : Nat => bnum2 (w3.drewN k) a n c l (HRD.out.later (below_drewN G3.out.below k)) HL.out (by omega) 9 (by omega) _ (add_lit a (by omega)).symm)
  go_wp2_with fail
  go_quiet ((first | (go_at_call 55; with_reducible exact Calls.quiet_of_same (HU7.out _)) | (go_at_call 55; with_reducible exact Calls.quiet_of_same (HU9.out _))))
  have G4 := Lib.hid (G3.out.drewN nq)
  clear HU7 HU9 k0 k1 G3
  generalize w3.drewN nq = w4 at G4 ⊢
  have hsz := HZ.out
  have hwh := gT_mul l
  rw [HN.out] at hsz
  unfold sizeB atP atS at hsz
  rw [HW.out, HH.out] at hwh
  obtain ⟨nt, hnt⟩ : ∃ nt, nT l = nt := ⟨_, rfl⟩
  obtain ⟨ni, hni⟩ : ∃ ni, num2 l 7 = ni := ⟨_, rfl⟩
  obtain ⟨nu, hnu⟩ : ∃ nu, num2 l 9 = nu := ⟨_, rfl⟩
  unfold nI nU at hsz
  rw [hni, hnu, hnt] at hsz
  rw [hnt] at hwh
  rw [hni, hnu]
  have HNT := Lib.hid hnt
  have HNI := Lib.hid hni
  have HNU := Lib.hid hnu
  have hnt2 : nt ≤ 256 := by
    have h1 : W * H ≤ 16 * 16 := Int.mul_le_mul (by omega) (by omega) (by omega) (by omega)
    omega
  clear hnt hni hnu
  have k0 := G4.out.box.cell 0
  have k1 := G4.out.box.cell 1
  simp [Cfg.cells, cfg0] at k0 k1
  obtain ⟨e, he⟩ : ∃ e : Nat, n = e + 4 := ⟨n - 4, by omega⟩
  have hee : (n : Int) - 4 = (e : Int) := by omega
  have hd10 : ((e : Int) != 11 + 3 * (nt : Int) + ((N : Int) + 7) / 8 + 2 * ((ni : Int) + (nu : Int))) = false := by rw [bne_eq_false_iff_eq]; omega
  have HSZ := Lib.hid hsz
  have hb1 : nt + N + ni + nu ≤ 100000 := by omega
  have he1 : e + 4 ≤ n := by omega
  have he2 : n ≤ e + 4 := by omega
  clear hsz he
  go_wp2_with fail
  have hS := HS.out
  have hes : sizeB l (gN l) = e := by have := HZ.out; omega
  rw [hes] at hS
  have hbs := fun k : Nat => bsum_any (w4.drewN k) (some a) e c (l.take e) (rd_take (HRD.out.later (below_drewN G4.out.below k)) (by omega)) (fun x hx => HL.out x (List.mem_of_mem_take hx)) (by omega)
  have hbn := fun k : Nat => bnumber_any (w4.drewN k) (some (a.add e)) 4 (c - e) ((l.drop e).take 4) (rd_cut (HRD.out.later (below_drewN G4.out.below k)) (by omega) (by omega)) (fun x hx => HL.out x (List.mem_of_mem_drop (List.mem_of_mem_take hx))) (by omega)
  have hse := sumB_lt (l.take e)
  rw [show (l.drop e).take 4 = four (sumB (l.take e)) by rw [hS]; rfl, numB_four _ hse] at hbn
  generalize sumB (l.take e) = sm at hbs hbn hse
  have HBS := Lib.hid hbs
  have HBN := Lib.hid hbn
  have h4 : n - e = 4 := by omega
  clear hS hes hbs hbn hwh k0 k1 hd10 hd15 i4 i5 i6
  have hu32 : IntKind.u32.wrap (sm : Int) = (sm : Int) := by
    have h1 : (sm : Int) % 4294967296 = (sm : Int) := by omega
    simpa [IntKind.wrap, IntKind.bits, IntKind.signed] using h1
  go_quiet ((first | (go_at_call 43; with_reducible exact Calls.quiet_of_same (HBS.out _)) | (go_at_call 55; with_reducible exact Calls.quiet_of_same (HBN.out _))))
  have G5 := Lib.hid (G4.out.drewN nq)
  clear HBS HBN hu32 hse hb1 h4 G4
  generalize w4.drewN nq = w5 at G5 ⊢
  have hmf : ∀ (fn : Fn) (first cap : Array Value) (w : World), (Instr.makeFunc fn first cap).run Tryz.prog w = .ok (.func fn first cap) w := fun _ _ _ _ => rfl
  go_wp2_with fail
  have S6 := GS.start G5.out (.inr trivial) (a := a) (e := e) (c := c)
  rw [add_lit a (by omega)] at S6
  obtain ⟨gl, hgl⟩ : ∃ gl, w5.heap.size = gl := ⟨_, rfl⟩
  rw [hgl] at S6 ⊢
  generalize w5.alloc (.cells #[.slice (some ⟨a.block, a.off + 11, none⟩) (e - 11) (c - 11)] 48) = w6 at S6 ⊢
  have S6 := Lib.hid S6
  have hmax : c ≤ maxLen := hc
  have hec : e < c := by omega
  have HX : Hid (11 + 3 * nt + (N + 7) / 8 + 2 * (ni + nu) = e) := Lib.hid (by have := HSZ.out; omega)
  clear hmf hgl G5 hee he2 hc
  go_loopw [13, 102] (fun o i wx => ∃ (k : Nat) (C : Cfg), k ≤ nt ∧ i = .int .i64 (k : Int) ∧ o = .bool (oddT l 11 k) ∧ C.tiles = tilesAt l 11 k ∧ TR1 C W H T ∧ GS w wx gc gl a e c (11 + 3 * k) C) (fun _ i _ => nt - (intOf i).toNat)
  case atStart => exact ⟨0, cfg0 W H T, by omega, rfl, by simp [oddT], by simp [cfg0, tilesAt], ⟨rfl, rfl, rfl, rfl, rfl, rfl, rfl⟩, S6.out⟩
  case round =>
    clear S6
    obtain ⟨k, C, hk, rfl, rfl, hct, htr, hs⟩ := hrel
    have HCT := Lib.hid hct
    have HTR := Lib.hid htr
    obtain ⟨p, hp⟩ : ∃ p, 11 + 3 * k = p := ⟨_, rfl⟩
    rw [hp] at hs
    have HPP := Lib.hid hp
    have HS7 := Lib.hid hs
    clear hct htr hs hp
    by_cases hlt : k < nt
    · have hpe : p + 3 ≤ e := by have := HX.out; have := HPP.out; omega
      have h3 := Lib.hid (next3 gl a p e c hpe hec hmax wr HS7.out.left)
      go_wp2_with fail
      refine h3.out.mono ?_
      rintro e7 w7 ⟨rfl, hw7⟩
      have T7 := HS7.out.to (p + 3)
      rw [← hw7] at T7
      have T7 := Lib.hid T7
      clear hw7 h3 HS7
      have d2 := rd_byte (HRD.out.later T7.out.gw.below) (k := p + 2) (by omega)
      rw [← add_field a p 2 (by omega)] at d2
      have n2 := World.new_ne w7 _ d2
      have k3 : w7.cell? ⟨gc, 3, none⟩ = some (.slice C.AT C.tiles.length C.cT) := T7.out.gw.box.cell 3
      have f3 := T7.out.gw.box.free 3
      have n3 := World.new_ne w7 _ k3
      have hx2 := getD_lt HL.out (p + 2)
      have hod := oddT_next l 11 k
      have htn := tilesAt_next l 11 k
      rw [HPP.out] at hod htn
      obtain ⟨x2, hx2e⟩ : ∃ x2, l.getD (p + 2) 0 = x2 := ⟨_, rfl⟩
      rw [hx2e] at d2 hx2 hod htn
      have HX2 := Lib.hid hx2e
      clear hx2e
      have ha1 := and1_u8 x2 hx2
      have ha2 := and2_u8 x2 hx2
      obtain ⟨b1, hb1⟩ : ∃ b1, decide (x2 % 2 = 1) = b1 := ⟨_, rfl⟩
      obtain ⟨b2, hb2⟩ : ∃ b2, decide (x2 / 2 % 2 = 1) = b2 := ⟨_, rfl⟩
      have hn1 : (bits .and .u8 (x2 : Int) 1 != 0) = b1 := by rw [ha1, bit_ne, hb1]
      have hn2 : (bits .and .u8 (x2 : Int) 2 != 0) = b2 := by rw [ha2, bit2_ne, hb2]
      rw [hb1, hb2] at htn
      have HOD := Lib.hid hod
      have HTN := Lib.hid htn
      clear hod htn ha1 ha2 hb1 hb2
      have HNM := Lib.hid (fun (W : World) (hW : Below w.heap.size w W) => bnum2 W a n c l (HRD.out.later hW) HL.out (by omega) p (by omega) _ rfl)
      have k8 : (w7.alloc (.cells #[.int .i64 (num2 l p : Int), .bool b1, .bool b2] 61)).cell? ⟨gc, 3, none⟩ = some (.slice C.AT C.tiles.length C.cT) := (T7.out.gw.box.alloc _).cell 3
      have hcp : (2 : Int) ≤ ((c - p : Nat) : Int) := by omega
      have hTL : C.tiles.length ≤ 256 := by rw [HCT.out, tilesAt_len]; omega
      obtain ⟨i0, hi0, hz0, hz1, hz2⟩ := info_parts tile_info
      have HI0 := Lib.hid hi0
      have HZ0 := Lib.hid hz0
      have HZ1 := Lib.hid hz1
      have HZ2 := Lib.hid hz2
      clear hi0 hz0 hz1 hz2
      generalize oddT l 11 k = od at HOD ⊢
      go_wp2_with fail
      refine wp_region_held_drew (S := (fun w2 => w2.cell? ⟨(a.add p).block, (a.add p).off + 2, none⟩ = some (.int .u8 (x2 : Int)))) (by kernel_rfl) ?_ (fun hHeld => ?_)
      · first | go_keep | exact (World.cell?_setCell_other _ _ _ _ (by first | exact m9 | exact m9.symm)).trans d9
      refine wpAnyH_take (i := 0) (oi := { dst := some 106, op := Op.fieldAddr 28 (Operand.tmp 4) 1, type := 0, pos := _, after := #[], guard := none }) (v := ?_) rfl (by kernel_rfl) (by kernel_rfl) (by kernel_rfl) (fun _ _ _ h => h) (Or.inl ⟨by rfl, ?_⟩) (by assumption) ?_
      rotate_left
      · intro w hSw; (try dsimp only at hSw); go_simp; (try with_reducible rfl)
      try simp only [Act.put, List.setIfInBounds_toArray, List.set_cons_zero, List.set_cons_succ]
      refine wpAnyH_take (i := 2) (oi := { dst := some 108, op := Op.move (Operand.tmp 14), type := 48, pos := _, after := #[], guard := none }) (v := ?_) rfl (by kernel_rfl) (by kernel_rfl) (by kernel_rfl) (fun _ _ _ h => h) (Or.inl ⟨by rfl, ?_⟩) (by assumption) ?_
      rotate_left
      · intro w hSw; (try dsimp only at hSw); go_simp; (try with_reducible rfl)
      try simp only [Act.put, List.setIfInBounds_toArray, List.set_cons_zero, List.set_cons_succ]
      refine wpAnyH_take (i := 3) (oi := { dst := some 109, op := Op.slice 48 (Operand.tmp 108) none (some (Operand.const (Value.int IntKind.i64 2))) none, type := 48, pos := _, after := #[{ on := 2, ground := Ground.data }], guard := none }) (v := ?_) rfl (by kernel_rfl) (by kernel_rfl) (by kernel_rfl) (fun _ _ _ h => h) (Or.inl ⟨by rfl, ?_⟩) (by assumption) ?_
      rotate_left
      · intro w hSw; (try dsimp only at hSw); go_simp; (try with_reducible rfl)
      try simp only [Act.put, List.setIfInBounds_toArray, List.set_cons_zero, List.set_cons_succ]
      refine wpAnyH_take (i := 5) (oi := { dst := some 111, op := Op.move (Operand.tmp 14), type := 48, pos := _, after := #[], guard := none }) (v := ?_) rfl (by kernel_rfl) (by kernel_rfl) (by kernel_rfl) (fun _ _ _ h => h) (Or.inl ⟨by rfl, ?_⟩) (by assumption) ?_
      rotate_left
      · intro w hSw; (try dsimp only at hSw); go_simp; (try with_reducible rfl)
      try simp only [Act.put, List.setIfInBounds_toArray, List.set_cons_zero, List.set_cons_succ]
      refine wpAnyH_take (i := 6) (oi := { dst := some 112, op := Op.indexAddr 48 (Operand.tmp 111) (Operand.const (Value.int IntKind.i64 2)), type := 0, pos := _, after := #[{ on := 5, ground := Ground.data }], guard := none }) (v := ?_) rfl (by kernel_rfl) (by kernel_rfl) (by kernel_rfl) (fun _ _ _ h => h) (Or.inl ⟨by rfl, ?_⟩) (by assumption) ?_
      rotate_left
      · intro w hSw; (try dsimp only at hSw); go_simp; (try with_reducible rfl)
      try simp only [Act.put, List.setIfInBounds_toArray, List.set_cons_zero, List.set_cons_succ]
      refine wpAnyH_take (i := 7) (oi := { dst := some 113, op := Op.load 5 (Operand.tmp 112), type := 5, pos := _, after := #[{ on := 6, ground := Ground.data }], guard := none }) (v := ?_) rfl (by kernel_rfl) (by kernel_rfl) (by kernel_rfl) (fun _ _ _ h => h) (Or.inl ⟨by rfl, ?_⟩) (by assumption) ?_
      rotate_left
      · intro w hSw; (try dsimp only at hSw); go_simp; (try with_reducible rfl)
      try simp only [Act.put, List.setIfInBounds_toArray, List.set_cons_zero, List.set_cons_succ]
      refine wpAnyH_take (i := 8) (oi := { dst := some 114, op := Op.binOp BinOp.and 5 (Operand.tmp 113) (Operand.const (Value.int IntKind.u8 1)) 5, type := 5, pos := _, after := #[{ on := 7, ground := Ground.data }], guard := none }) (v := ?_) rfl (by kernel_rfl) (by kernel_rfl) (by kernel_rfl) (fun _ _ _ h => h) (Or.inl ⟨by rfl, ?_⟩) (by assumption) ?_
      rotate_left
      · intro w hSw; (try dsimp only at hSw); go_simp; (try with_reducible rfl)
      try simp only [Act.put, List.setIfInBounds_toArray, List.set_cons_zero, List.set_cons_succ]
      refine wpAnyH_take (i := 9) (oi := { dst := some 115, op := Op.binOp BinOp.neq 5 (Operand.tmp 114) (Operand.const (Value.int IntKind.u8 0)) 5, type := 4, pos := _, after := #[{ on := 8, ground := Ground.data }], guard := none }) (v := ?_) rfl (by kernel_rfl) (by kernel_rfl) (by kernel_rfl) (fun _ _ _ h => h) (Or.inl ⟨by rfl, ?_⟩) (by assumption) ?_
      rotate_left
      · intro w hSw; (try dsimp only at hSw); go_simp; (try with_reducible rfl)
      try simp only [Act.put, List.setIfInBounds_toArray, List.set_cons_zero, List.set_cons_succ]
      refine wpAnyH_take (i := 10) (oi := { dst := some 116, op := Op.move (Operand.tmp 14), type := 48, pos := _, after := #[], guard := none }) (v := ?_) rfl (by kernel_rfl) (by kernel_rfl) (by kernel_rfl) (fun _ _ _ h => h) (Or.inl ⟨by rfl, ?_⟩) (by assumption) ?_
      rotate_left
      · intro w hSw; (try dsimp only at hSw); go_simp; (try with_reducible rfl)
      try simp only [Act.put, List.setIfInBounds_toArray, List.set_cons_zero, List.set_cons_succ]
      refine wpAnyH_take (i := 11) (oi := { dst := some 117, op := Op.indexAddr 48 (Operand.tmp 116) (Operand.const (Value.int IntKind.i64 2)), type := 0, pos := _, after := #[{ on := 10, ground := Ground.data }], guard := none }) (v := ?_) rfl (by kernel_rfl) (by kernel_rfl) (by kernel_rfl) (fun _ _ _ h => h) (Or.inl ⟨by rfl, ?_⟩) (by assumption) ?_
      rotate_left
      · intro w hSw; (try dsimp only at hSw); go_simp; (try with_reducible rfl)
      try simp only [Act.put, List.setIfInBounds_toArray, List.set_cons_zero, List.set_cons_succ]
      refine wpAnyH_take (i := 12) (oi := { dst := some 118, op := Op.load 5 (Operand.tmp 117), type := 5, pos := _, after := #[{ on := 11, ground := Ground.data }], guard := none }) (v := ?_) rfl (by kernel_rfl) (by kernel_rfl) (by kernel_rfl) (fun _ _ _ h => h) (Or.inl ⟨by rfl, ?_⟩) (by assumption) ?_
      rotate_left
      · intro w hSw; (try dsimp only at hSw); go_simp; (try with_reducible rfl)
      try simp only [Act.put, List.setIfInBounds_toArray, List.set_cons_zero, List.set_cons_succ]
      refine wpAnyH_take (i := 13) (oi := { dst := some 119, op := Op.binOp BinOp.and 5 (Operand.tmp 118) (Operand.const (Value.int IntKind.u8 2)) 5, type := 5, pos := _, after := #[{ on := 12, ground := Ground.data }], guard := none }) (v := ?_) rfl (by kernel_rfl) (by kernel_rfl) (by kernel_rfl) (fun _ _ _ h => h) (Or.inl ⟨by rfl, ?_⟩) (by assumption) ?_
      rotate_left
      · intro w hSw; (try dsimp only at hSw); go_simp; (try with_reducible rfl)
      try simp only [Act.put, List.setIfInBounds_toArray, List.set_cons_zero, List.set_cons_succ]
      refine wpAnyH_take (i := 14) (oi := { dst := some 120, op := Op.binOp BinOp.neq 5 (Operand.tmp 119) (Operand.const (Value.int IntKind.u8 0)) 5, type := 4, pos := _, after := #[{ on := 13, ground := Ground.data }], guard := none }) (v := ?_) rfl (by kernel_rfl) (by kernel_rfl) (by kernel_rfl) (fun _ _ _ h => h) (Or.inl ⟨by rfl, ?_⟩) (by assumption) ?_
      rotate_left
      · intro w hSw; (try dsimp only at hSw); go_simp; (try with_reducible rfl)
      try simp only [Act.put, List.setIfInBounds_toArray, List.set_cons_zero, List.set_cons_succ]
      refine wpAnyH_ready (rs := [1, 4]) (by kernel_rfl) (by simp) ?_
      refine AllReadyH.cons (o := { dst := some 107, op := Op.load 24 (Operand.tmp 106), type := 24, pos := _, after := #[{ on := 0, ground := Ground.data }], guard := none }) rfl (fun K hK => ?_) (AllReadyH.cons (o := { dst := some 110, op := Op.call { callee := Callee.value (Operand.func 55), args := #[Operand.tmp 109], argTypes := #[48] }, type := 3, pos := _, after := #[{ on := 3, ground := Ground.data }], guard := none }) rfl (fun K hK => ?_) AllReadyH.nil)
      · skip
        go_simp
        refine hK.out _ _ ?_ (fun hHeld => ?_)
        · first | go_keep | exact (World.cell?_setCell_other _ _ _ _ (by first | exact m9 | exact m9.symm)).trans d9
        clear hK K
        try simp only [Act.put, List.setIfInBounds_toArray, List.set_cons_zero, List.set_cons_succ]
        refine wpAnyH_ready (rs := [4]) (by kernel_rfl) (by simp) ?_
        refine AllReadyH.cons (o := { dst := some 110, op := Op.call { callee := Callee.value (Operand.func 55), args := #[Operand.tmp 109], argTypes := #[48] }, type := 3, pos := _, after := #[{ on := 3, ground := Ground.data }], guard := none }) rfl (fun K hK => ?_) AllReadyH.nil
        go_simp
        with_reducible refine (HNM.out _ ?_).mono ?_
        · exact below_drewN T7.out.gw.below 1
        rintro e8 w8 ⟨rfl, rfl⟩
        refine hK.out _ _ ?_ (fun hHeld => ?_)
        · first | go_keep | exact (World.cell?_setCell_other _ _ _ _ (by first | exact m9 | exact m9.symm)).trans d9
        clear hK K
        try simp only [Act.put, List.setIfInBounds_toArray, List.set_cons_zero, List.set_cons_succ]
        refine wpAnyH_take (i := 15) (oi := { dst := some 121, op := Op.build 61 #[(0, Operand.tmp 110), (1, Operand.tmp 115), (2, Operand.tmp 120)], type := 61, pos := _, after := #[{ on := 4, ground := Ground.data }, { on := 9, ground := Ground.data }, { on := 14, ground := Ground.data }], guard := none }) (v := ?_) rfl (by kernel_rfl) (by kernel_rfl) (by kernel_rfl) (fun _ _ _ h => h) (Or.inl ⟨by rfl, ?_⟩) (by assumption) ?_
        rotate_left
        · intro w hSw; (try dsimp only at hSw); go_simp; (try with_reducible rfl)
        try simp only [Act.put, List.setIfInBounds_toArray, List.set_cons_zero, List.set_cons_succ]
        refine wpAnyH_ready (rs := [16]) (by kernel_rfl) (by simp) ?_
        refine AllReadyH.cons (o := { dst := some 122, op := Op.buildSlice 24 1 #[(0, Operand.tmp 121)], type := 24, pos := _, after := #[{ on := 15, ground := Ground.data }], guard := none }) rfl (fun K hK => ?_) AllReadyH.nil
        go_simp
        refine hK.out _ _ ?_ (fun hHeld => ?_)
        · first | go_keep | exact (World.cell?_setCell_other _ _ _ _ (by first | exact m9 | exact m9.symm)).trans d9
        clear hK K
        try simp only [Act.put, List.setIfInBounds_toArray, List.set_cons_zero, List.set_cons_succ]
        refine wpAnyH_ready (rs := [17]) (by kernel_rfl) (by simp) ?_
        refine AllReadyH.cons (o := { dst := some 123, op := Op.call { callee := Callee.builtin Builtin.append, args := #[Operand.tmp 107, Operand.tmp 122], argTypes := #[24, 24] }, type := 24, pos := _, after := #[{ on := 1, ground := Ground.data }, { on := 16, ground := Ground.data }, { on := 4, ground := Ground.chain }], guard := none }) rfl (fun K hK => ?_) AllReadyH.nil
        have T8 : GS w (w7.alloc (.cells #[.int .i64 (num2 l p : Int), .bool b1, .bool b2] 61)).drew gc gl a e c (p + 3) C := (T7.out.keep (below_new _ _)).drewN 1
        have T8 := Lib.hid T8
        refine step_append_lies _ (by rfl) (.tmp 107) (.tmp 122) 24 (by rfl) (gc + 1) 61 i0 (.agg #[.int .i64 0, .bool false, .bool false]) 3 16 Tryz.underlying24 HI0.out HZ0.out HZ1.out HZ2.out rfl (by decide) C.AT' C.tiles.length (tiles3 C.tiles) (by rfl) T8.out.gw.rT ⟨w7.heap.size, 0, none⟩ 1 1 [.int .i64 (num2 l p : Int), .bool b1, .bool b2] (by rfl) rfl (new_cells w7 _ _) (by intro u hu; simp at hu; rcases hu with rfl | rfl | rfl <;> rfl) (by decide) (by unfold maxLen; omega) (by omega) (by have := T8.out.gw.lt; omega) (w7.heap.size + 1) (by simp) ?_
        intro g9 cap9 w9 hown9 hg9 hat9 hlt9
        have d9 := rd_byte (HRD.out.later (T8.out.gw.grow hg9 (fun g e => own_base T8.out.gw.rT e)).1) (k := p + 2) (by omega)
        rw [← add_field a p 2 (by omega), HX2.out] at d9
        have k9 : w9.cell? ⟨gc, 3, none⟩ = some (.slice C.AT C.tiles.length C.cT) := (T8.out.gw.grow hg9 (fun g e => own_base T8.out.gw.rT e)).2.2.cell 3
        have f9 : w9.frozen? ⟨gc, 3, none⟩ = false := (T8.out.gw.grow hg9 (fun g e => own_base T8.out.gw.rT e)).2.2.free 3
        have m9 : (⟨gc, 3, none⟩ : Addr) ≠ ⟨(a.add p).block, (a.add p).off + 2, none⟩ := gc_far HRD.out T8.out.gw (by omega) _ _
        refine hK.out _ _ ?_ (fun hHeld => ?_)
        · first | go_keep | exact (World.cell?_setCell_other _ _ _ _ (by first | exact m9 | exact m9.symm)).trans d9
        clear hK K
        try simp only [Act.put, List.setIfInBounds_toArray, List.set_cons_zero, List.set_cons_succ]
        refine wpAnyH_take (i := 18) (oi := { dst := some 124, op := Op.fieldAddr 28 (Operand.tmp 4) 1, type := 0, pos := _, after := #[{ on := 0, ground := Ground.phase }, { on := 1, ground := Ground.phase }, { on := 2, ground := Ground.phase }, { on := 3, ground := Ground.phase }, { on := 4, ground := Ground.phase }, { on := 5, ground := Ground.phase }, { on := 6, ground := Ground.phase }, { on := 7, ground := Ground.phase }, { on := 8, ground := Ground.phase }, { on := 9, ground := Ground.phase }, { on := 10, ground := Ground.phase }, { on := 11, ground := Ground.phase }, { on := 12, ground := Ground.phase }, { on := 13, ground := Ground.phase }, { on := 14, ground := Ground.phase }, { on := 15, ground := Ground.phase }, { on := 16, ground := Ground.phase }, { on := 17, ground := Ground.phase }], guard := none }) (v := ?_) rfl (by kernel_rfl) (by kernel_rfl) (by kernel_rfl) (fun _ _ _ h => h) (Or.inl ⟨by rfl, ?_⟩) (by assumption) ?_
        rotate_left
        · intro w hSw; (try dsimp only at hSw); go_simp; (try with_reducible rfl)
        try simp only [Act.put, List.setIfInBounds_toArray, List.set_cons_zero, List.set_cons_succ]
        refine wpAnyH_ready (rs := [19]) (by kernel_rfl) (by simp) ?_
        refine AllReadyH.cons (o := { dst := none, op := Op.store 24 (Operand.tmp 124) (Operand.tmp 123), type := 0, pos := _, after := #[{ on := 18, ground := Ground.data }, { on := 17, ground := Ground.data }, { on := 17, ground := Ground.chain }, { on := 0, ground := Ground.phase }, { on := 1, ground := Ground.phase }, { on := 2, ground := Ground.phase }, { on := 3, ground := Ground.phase }, { on := 4, ground := Ground.phase }, { on := 5, ground := Ground.phase }, { on := 6, ground := Ground.phase }, { on := 7, ground := Ground.phase }, { on := 8, ground := Ground.phase }, { on := 9, ground := Ground.phase }, { on := 10, ground := Ground.phase }, { on := 11, ground := Ground.phase }, { on := 12, ground := Ground.phase }, { on := 13, ground := Ground.phase }, { on := 14, ground := Ground.phase }, { on := 15, ground := Ground.phase }, { on := 16, ground := Ground.phase }, { on := 17, ground := Ground.phase }], guard := none }) rfl (fun K hK => ?_) AllReadyH.nil
        go_simp
        refine hK.out _ _ ?_ (fun hHeld => ?_)
        · first | go_keep | exact (World.cell?_setCell_other _ _ _ _ (by first | exact m9 | exact m9.symm)).trans d9
        clear hK K
        try simp only [Act.put, List.setIfInBounds_toArray, List.set_cons_zero, List.set_cons_succ]
        refine wpAnyH_done (by kernel_rfl) ?_ _
        have T10 := T8.out.setT (t := ((num2 l p : Int), b1, b2)) hg9 rfl (by rw [tiles3_snoc]; exact hown9)
        generalize w9.setCell ⟨gc, 3, none⟩ (.slice (some ⟨g9, 0, none⟩) (C.tiles.length + 1) cap9) = w10 at T10 ⊢
        have T10 := Lib.hid T10
        clear T8 hg9 hown9 hat9 hlt9 d9 T7 d2 n2 n3 k3 k8 f3 HNM hHeld
        have d10 := rd_byte (HRD.out.later T10.out.gw.below) (k := p + 2) (by omega)
        rw [← add_field a p 2 (by omega), HX2.out] at d10
        have hrel : ∀ o2 : Value, o2 = .bool (od || decide (3 < x2)) → ∃ (k' : Nat) (C' : Cfg), k' ≤ nt ∧ Value.int .i64 ((k : Int) + 1) = .int .i64 (k' : Int) ∧ o2 = .bool (oddT l 11 k') ∧ C'.tiles = tilesAt l 11 k' ∧ TR1 C' W H T ∧ GS w w10 gc gl a e c (11 + 3 * k') C' := fun o2 ho2 => by
          refine ⟨k + 1, _, by omega, by go_num, by rw [HOD.out]; exact ho2, ?_, ?_, by have h := T10.out; have e3 : 11 + 3 * (k + 1) = p + 3 := (by have := HPP.out; omega); rw [e3]; exact h⟩
          · rw [HTN.out, ← HCT.out]
          · exact HTR.out
        have HREL := Lib.hid hrel
        clear hrel
        cases od with
        | true =>
          go_wp2_with fail
          go_roundw
          case rel => exact HREL.out _ (by simp)
          case measure => simp [intOf]; omega
        | false =>
          by_cases hx3 : 3 < x2
          · have hd : decide ((3 : Int) < (x2 : Int)) = true := decide_eq_true (by omega)
            go_wp2_with fail
            go_roundw
            case rel => exact HREL.out _ (by simp [hx3])
            case measure => simp [intOf]; omega
          · have hd : decide ((3 : Int) < (x2 : Int)) = false := decide_eq_false (by omega)
            go_wp2_with fail
            go_roundw
            case rel => exact HREL.out _ (by simp [hx3])
            case measure => simp [intOf]; omega
      · skip
        go_simp
        with_reducible refine (HNM.out _ ?_).mono ?_
        · exact below_drewN T7.out.gw.below 1
        rintro e8 w8 ⟨rfl, rfl⟩
        refine hK.out _ _ ?_ (fun hHeld => ?_)
        · first | go_keep | exact (World.cell?_setCell_other _ _ _ _ (by first | exact m9 | exact m9.symm)).trans d9
        clear hK K
        try simp only [Act.put, List.setIfInBounds_toArray, List.set_cons_zero, List.set_cons_succ]
        refine wpAnyH_take (i := 15) (oi := { dst := some 121, op := Op.build 61 #[(0, Operand.tmp 110), (1, Operand.tmp 115), (2, Operand.tmp 120)], type := 61, pos := _, after := #[{ on := 4, ground := Ground.data }, { on := 9, ground := Ground.data }, { on := 14, ground := Ground.data }], guard := none }) (v := ?_) rfl (by kernel_rfl) (by kernel_rfl) (by kernel_rfl) (fun _ _ _ h => h) (Or.inl ⟨by rfl, ?_⟩) (by assumption) ?_
        rotate_left
        · intro w hSw; (try dsimp only at hSw); go_simp; (try with_reducible rfl)
        try simp only [Act.put, List.setIfInBounds_toArray, List.set_cons_zero, List.set_cons_succ]
        refine wpAnyH_ready (rs := [1, 16]) (by kernel_rfl) (by simp) ?_
        refine AllReadyH.cons (o := { dst := some 107, op := Op.load 24 (Operand.tmp 106), type := 24, pos := _, after := #[{ on := 0, ground := Ground.data }], guard := none }) rfl (fun K hK => ?_) (AllReadyH.cons (o := { dst := some 122, op := Op.buildSlice 24 1 #[(0, Operand.tmp 121)], type := 24, pos := _, after := #[{ on := 15, ground := Ground.data }], guard := none }) rfl (fun K hK => ?_) AllReadyH.nil)
        · skip
          go_simp
          refine hK.out _ _ ?_ (fun hHeld => ?_)
          · first | go_keep | exact (World.cell?_setCell_other _ _ _ _ (by first | exact m9 | exact m9.symm)).trans d9
          clear hK K
          try simp only [Act.put, List.setIfInBounds_toArray, List.set_cons_zero, List.set_cons_succ]
          refine wpAnyH_ready (rs := [16]) (by kernel_rfl) (by simp) ?_
          refine AllReadyH.cons (o := { dst := some 122, op := Op.buildSlice 24 1 #[(0, Operand.tmp 121)], type := 24, pos := _, after := #[{ on := 15, ground := Ground.data }], guard := none }) rfl (fun K hK => ?_) AllReadyH.nil
          go_simp
          refine hK.out _ _ ?_ (fun hHeld => ?_)
          · first | go_keep | exact (World.cell?_setCell_other _ _ _ _ (by first | exact m9 | exact m9.symm)).trans d9
          clear hK K
          try simp only [Act.put, List.setIfInBounds_toArray, List.set_cons_zero, List.set_cons_succ]
          refine wpAnyH_ready (rs := [17]) (by kernel_rfl) (by simp) ?_
          refine AllReadyH.cons (o := { dst := some 123, op := Op.call { callee := Callee.builtin Builtin.append, args := #[Operand.tmp 107, Operand.tmp 122], argTypes := #[24, 24] }, type := 24, pos := _, after := #[{ on := 1, ground := Ground.data }, { on := 16, ground := Ground.data }, { on := 4, ground := Ground.chain }], guard := none }) rfl (fun K hK => ?_) AllReadyH.nil
          have T8 : GS w (w7.alloc (.cells #[.int .i64 (num2 l p : Int), .bool b1, .bool b2] 61)).drew gc gl a e c (p + 3) C := (T7.out.keep (below_new _ _)).drewN 1
          have T8 := Lib.hid T8
          refine step_append_lies _ (by rfl) (.tmp 107) (.tmp 122) 24 (by rfl) (gc + 1) 61 i0 (.agg #[.int .i64 0, .bool false, .bool false]) 3 16 Tryz.underlying24 HI0.out HZ0.out HZ1.out HZ2.out rfl (by decide) C.AT' C.tiles.length (tiles3 C.tiles) (by rfl) T8.out.gw.rT ⟨w7.heap.size, 0, none⟩ 1 1 [.int .i64 (num2 l p : Int), .bool b1, .bool b2] (by rfl) rfl (new_cells w7 _ _) (by intro u hu; simp at hu; rcases hu with rfl | rfl | rfl <;> rfl) (by decide) (by unfold maxLen; omega) (by omega) (by have := T8.out.gw.lt; omega) (w7.heap.size + 1) (by simp) ?_
          intro g9 cap9 w9 hown9 hg9 hat9 hlt9
          have d9 := rd_byte (HRD.out.later (T8.out.gw.grow hg9 (fun g e => own_base T8.out.gw.rT e)).1) (k := p + 2) (by omega)
          rw [← add_field a p 2 (by omega), HX2.out] at d9
          have k9 : w9.cell? ⟨gc, 3, none⟩ = some (.slice C.AT C.tiles.length C.cT) := (T8.out.gw.grow hg9 (fun g e => own_base T8.out.gw.rT e)).2.2.cell 3
          have f9 : w9.frozen? ⟨gc, 3, none⟩ = false := (T8.out.gw.grow hg9 (fun g e => own_base T8.out.gw.rT e)).2.2.free 3
          have m9 : (⟨gc, 3, none⟩ : Addr) ≠ ⟨(a.add p).block, (a.add p).off + 2, none⟩ := gc_far HRD.out T8.out.gw (by omega) _ _
          refine hK.out _ _ ?_ (fun hHeld => ?_)
          · first | go_keep | exact (World.cell?_setCell_other _ _ _ _ (by first | exact m9 | exact m9.symm)).trans d9
          clear hK K
          try simp only [Act.put, List.setIfInBounds_toArray, List.set_cons_zero, List.set_cons_succ]
          refine wpAnyH_take (i := 18) (oi := { dst := some 124, op := Op.fieldAddr 28 (Operand.tmp 4) 1, type := 0, pos := _, after := #[{ on := 0, ground := Ground.phase }, { on := 1, ground := Ground.phase }, { on := 2, ground := Ground.phase }, { on := 3, ground := Ground.phase }, { on := 4, ground := Ground.phase }, { on := 5, ground := Ground.phase }, { on := 6, ground := Ground.phase }, { on := 7, ground := Ground.phase }, { on := 8, ground := Ground.phase }, { on := 9, ground := Ground.phase }, { on := 10, ground := Ground.phase }, { on := 11, ground := Ground.phase }, { on := 12, ground := Ground.phase }, { on := 13, ground := Ground.phase }, { on := 14, ground := Ground.phase }, { on := 15, ground := Ground.phase }, { on := 16, ground := Ground.phase }, { on := 17, ground := Ground.phase }], guard := none }) (v := ?_) rfl (by kernel_rfl) (by kernel_rfl) (by kernel_rfl) (fun _ _ _ h => h) (Or.inl ⟨by rfl, ?_⟩) (by assumption) ?_
          rotate_left
          · intro w hSw; (try dsimp only at hSw); go_simp; (try with_reducible rfl)
          try simp only [Act.put, List.setIfInBounds_toArray, List.set_cons_zero, List.set_cons_succ]
          refine wpAnyH_ready (rs := [19]) (by kernel_rfl) (by simp) ?_
          refine AllReadyH.cons (o := { dst := none, op := Op.store 24 (Operand.tmp 124) (Operand.tmp 123), type := 0, pos := _, after := #[{ on := 18, ground := Ground.data }, { on := 17, ground := Ground.data }, { on := 17, ground := Ground.chain }, { on := 0, ground := Ground.phase }, { on := 1, ground := Ground.phase }, { on := 2, ground := Ground.phase }, { on := 3, ground := Ground.phase }, { on := 4, ground := Ground.phase }, { on := 5, ground := Ground.phase }, { on := 6, ground := Ground.phase }, { on := 7, ground := Ground.phase }, { on := 8, ground := Ground.phase }, { on := 9, ground := Ground.phase }, { on := 10, ground := Ground.phase }, { on := 11, ground := Ground.phase }, { on := 12, ground := Ground.phase }, { on := 13, ground := Ground.phase }, { on := 14, ground := Ground.phase }, { on := 15, ground := Ground.phase }, { on := 16, ground := Ground.phase }, { on := 17, ground := Ground.phase }], guard := none }) rfl (fun K hK => ?_) AllReadyH.nil
          go_simp
          refine hK.out _ _ ?_ (fun hHeld => ?_)
          · first | go_keep | exact (World.cell?_setCell_other _ _ _ _ (by first | exact m9 | exact m9.symm)).trans d9
          clear hK K
          try simp only [Act.put, List.setIfInBounds_toArray, List.set_cons_zero, List.set_cons_succ]
          refine wpAnyH_done (by kernel_rfl) ?_ _
          have T10 := T8.out.setT (t := ((num2 l p : Int), b1, b2)) hg9 rfl (by rw [tiles3_snoc]; exact hown9)
          generalize w9.setCell ⟨gc, 3, none⟩ (.slice (some ⟨g9, 0, none⟩) (C.tiles.length + 1) cap9) = w10 at T10 ⊢
          have T10 := Lib.hid T10
          clear T8 hg9 hown9 hat9 hlt9 d9 T7 d2 n2 n3 k3 k8 f3 HNM hHeld
          have d10 := rd_byte (HRD.out.later T10.out.gw.below) (k := p + 2) (by omega)
          rw [← add_field a p 2 (by omega), HX2.out] at d10
          have hrel : ∀ o2 : Value, o2 = .bool (od || decide (3 < x2)) → ∃ (k' : Nat) (C' : Cfg), k' ≤ nt ∧ Value.int .i64 ((k : Int) + 1) = .int .i64 (k' : Int) ∧ o2 = .bool (oddT l 11 k') ∧ C'.tiles = tilesAt l 11 k' ∧ TR1 C' W H T ∧ GS w w10 gc gl a e c (11 + 3 * k') C' := fun o2 ho2 => by
            refine ⟨k + 1, _, by omega, by go_num, by rw [HOD.out]; exact ho2, ?_, ?_, by have h := T10.out; have e3 : 11 + 3 * (k + 1) = p + 3 := (by have := HPP.out; omega); rw [e3]; exact h⟩
            · rw [HTN.out, ← HCT.out]
            · exact HTR.out
          have HREL := Lib.hid hrel
          clear hrel
          cases od with
          | true =>
            go_wp2_with fail
            go_roundw
            case rel => exact HREL.out _ (by simp)
            case measure => simp [intOf]; omega
          | false =>
            by_cases hx3 : 3 < x2
            · have hd : decide ((3 : Int) < (x2 : Int)) = true := decide_eq_true (by omega)
              go_wp2_with fail
              go_roundw
              case rel => exact HREL.out _ (by simp [hx3])
              case measure => simp [intOf]; omega
            · have hd : decide ((3 : Int) < (x2 : Int)) = false := decide_eq_false (by omega)
              go_wp2_with fail
              go_roundw
              case rel => exact HREL.out _ (by simp [hx3])
              case measure => simp [intOf]; omega
        · skip
          go_simp
          refine hK.out _ _ ?_ (fun hHeld => ?_)
          · first | go_keep | exact (World.cell?_setCell_other _ _ _ _ (by first | exact m9 | exact m9.symm)).trans d9
          clear hK K
          try simp only [Act.put, List.setIfInBounds_toArray, List.set_cons_zero, List.set_cons_succ]
          refine wpAnyH_ready (rs := [1]) (by kernel_rfl) (by simp) ?_
          refine AllReadyH.cons (o := { dst := some 107, op := Op.load 24 (Operand.tmp 106), type := 24, pos := _, after := #[{ on := 0, ground := Ground.data }], guard := none }) rfl (fun K hK => ?_) AllReadyH.nil
          go_simp
          refine hK.out _ _ ?_ (fun hHeld => ?_)
          · first | go_keep | exact (World.cell?_setCell_other _ _ _ _ (by first | exact m9 | exact m9.symm)).trans d9
          clear hK K
          try simp only [Act.put, List.setIfInBounds_toArray, List.set_cons_zero, List.set_cons_succ]
          refine wpAnyH_ready (rs := [17]) (by kernel_rfl) (by simp) ?_
          refine AllReadyH.cons (o := { dst := some 123, op := Op.call { callee := Callee.builtin Builtin.append, args := #[Operand.tmp 107, Operand.tmp 122], argTypes := #[24, 24] }, type := 24, pos := _, after := #[{ on := 1, ground := Ground.data }, { on := 16, ground := Ground.data }, { on := 4, ground := Ground.chain }], guard := none }) rfl (fun K hK => ?_) AllReadyH.nil
          have T8 : GS w (w7.alloc (.cells #[.int .i64 (num2 l p : Int), .bool b1, .bool b2] 61)).drew gc gl a e c (p + 3) C := (T7.out.keep (below_new _ _)).drewN 1
          have T8 := Lib.hid T8
          refine step_append_lies _ (by rfl) (.tmp 107) (.tmp 122) 24 (by rfl) (gc + 1) 61 i0 (.agg #[.int .i64 0, .bool false, .bool false]) 3 16 Tryz.underlying24 HI0.out HZ0.out HZ1.out HZ2.out rfl (by decide) C.AT' C.tiles.length (tiles3 C.tiles) (by rfl) T8.out.gw.rT ⟨w7.heap.size, 0, none⟩ 1 1 [.int .i64 (num2 l p : Int), .bool b1, .bool b2] (by rfl) rfl (new_cells w7 _ _) (by intro u hu; simp at hu; rcases hu with rfl | rfl | rfl <;> rfl) (by decide) (by unfold maxLen; omega) (by omega) (by have := T8.out.gw.lt; omega) (w7.heap.size + 1) (by simp) ?_
          intro g9 cap9 w9 hown9 hg9 hat9 hlt9
          have d9 := rd_byte (HRD.out.later (T8.out.gw.grow hg9 (fun g e => own_base T8.out.gw.rT e)).1) (k := p + 2) (by omega)
          rw [← add_field a p 2 (by omega), HX2.out] at d9
          have k9 : w9.cell? ⟨gc, 3, none⟩ = some (.slice C.AT C.tiles.length C.cT) := (T8.out.gw.grow hg9 (fun g e => own_base T8.out.gw.rT e)).2.2.cell 3
          have f9 : w9.frozen? ⟨gc, 3, none⟩ = false := (T8.out.gw.grow hg9 (fun g e => own_base T8.out.gw.rT e)).2.2.free 3
          have m9 : (⟨gc, 3, none⟩ : Addr) ≠ ⟨(a.add p).block, (a.add p).off + 2, none⟩ := gc_far HRD.out T8.out.gw (by omega) _ _
          refine hK.out _ _ ?_ (fun hHeld => ?_)
          · first | go_keep | exact (World.cell?_setCell_other _ _ _ _ (by first | exact m9 | exact m9.symm)).trans d9
          clear hK K
          try simp only [Act.put, List.setIfInBounds_toArray, List.set_cons_zero, List.set_cons_succ]
          refine wpAnyH_take (i := 18) (oi := { dst := some 124, op := Op.fieldAddr 28 (Operand.tmp 4) 1, type := 0, pos := _, after := #[{ on := 0, ground := Ground.phase }, { on := 1, ground := Ground.phase }, { on := 2, ground := Ground.phase }, { on := 3, ground := Ground.phase }, { on := 4, ground := Ground.phase }, { on := 5, ground := Ground.phase }, { on := 6, ground := Ground.phase }, { on := 7, ground := Ground.phase }, { on := 8, ground := Ground.phase }, { on := 9, ground := Ground.phase }, { on := 10, ground := Ground.phase }, { on := 11, ground := Ground.phase }, { on := 12, ground := Ground.phase }, { on := 13, ground := Ground.phase }, { on := 14, ground := Ground.phase }, { on := 15, ground := Ground.phase }, { on := 16, ground := Ground.phase }, { on := 17, ground := Ground.phase }], guard := none }) (v := ?_) rfl (by kernel_rfl) (by kernel_rfl) (by kernel_rfl) (fun _ _ _ h => h) (Or.inl ⟨by rfl, ?_⟩) (by assumption) ?_
          rotate_left
          · intro w hSw; (try dsimp only at hSw); go_simp; (try with_reducible rfl)
          try simp only [Act.put, List.setIfInBounds_toArray, List.set_cons_zero, List.set_cons_succ]
          refine wpAnyH_ready (rs := [19]) (by kernel_rfl) (by simp) ?_
          refine AllReadyH.cons (o := { dst := none, op := Op.store 24 (Operand.tmp 124) (Operand.tmp 123), type := 0, pos := _, after := #[{ on := 18, ground := Ground.data }, { on := 17, ground := Ground.data }, { on := 17, ground := Ground.chain }, { on := 0, ground := Ground.phase }, { on := 1, ground := Ground.phase }, { on := 2, ground := Ground.phase }, { on := 3, ground := Ground.phase }, { on := 4, ground := Ground.phase }, { on := 5, ground := Ground.phase }, { on := 6, ground := Ground.phase }, { on := 7, ground := Ground.phase }, { on := 8, ground := Ground.phase }, { on := 9, ground := Ground.phase }, { on := 10, ground := Ground.phase }, { on := 11, ground := Ground.phase }, { on := 12, ground := Ground.phase }, { on := 13, ground := Ground.phase }, { on := 14, ground := Ground.phase }, { on := 15, ground := Ground.phase }, { on := 16, ground := Ground.phase }, { on := 17, ground := Ground.phase }], guard := none }) rfl (fun K hK => ?_) AllReadyH.nil
          go_simp
          refine hK.out _ _ ?_ (fun hHeld => ?_)
          · first | go_keep | exact (World.cell?_setCell_other _ _ _ _ (by first | exact m9 | exact m9.symm)).trans d9
          clear hK K
          try simp only [Act.put, List.setIfInBounds_toArray, List.set_cons_zero, List.set_cons_succ]
          refine wpAnyH_done (by kernel_rfl) ?_ _
          have T10 := T8.out.setT (t := ((num2 l p : Int), b1, b2)) hg9 rfl (by rw [tiles3_snoc]; exact hown9)
          generalize w9.setCell ⟨gc, 3, none⟩ (.slice (some ⟨g9, 0, none⟩) (C.tiles.length + 1) cap9) = w10 at T10 ⊢
          have T10 := Lib.hid T10
          clear T8 hg9 hown9 hat9 hlt9 d9 T7 d2 n2 n3 k3 k8 f3 HNM hHeld
          have d10 := rd_byte (HRD.out.later T10.out.gw.below) (k := p + 2) (by omega)
          rw [← add_field a p 2 (by omega), HX2.out] at d10
          have hrel : ∀ o2 : Value, o2 = .bool (od || decide (3 < x2)) → ∃ (k' : Nat) (C' : Cfg), k' ≤ nt ∧ Value.int .i64 ((k : Int) + 1) = .int .i64 (k' : Int) ∧ o2 = .bool (oddT l 11 k') ∧ C'.tiles = tilesAt l 11 k' ∧ TR1 C' W H T ∧ GS w w10 gc gl a e c (11 + 3 * k') C' := fun o2 ho2 => by
            refine ⟨k + 1, _, by omega, by go_num, by rw [HOD.out]; exact ho2, ?_, ?_, by have h := T10.out; have e3 : 11 + 3 * (k + 1) = p + 3 := (by have := HPP.out; omega); rw [e3]; exact h⟩
            · rw [HTN.out, ← HCT.out]
            · exact HTR.out
          have HREL := Lib.hid hrel
          clear hrel
          cases od with
          | true =>
            go_wp2_with fail
            go_roundw
            case rel => exact HREL.out _ (by simp)
            case measure => simp [intOf]; omega
          | false =>
            by_cases hx3 : 3 < x2
            · have hd : decide ((3 : Int) < (x2 : Int)) = true := decide_eq_true (by omega)
              go_wp2_with fail
              go_roundw
              case rel => exact HREL.out _ (by simp [hx3])
              case measure => simp [intOf]; omega
            · have hd : decide ((3 : Int) < (x2 : Int)) = false := decide_eq_false (by omega)
              go_wp2_with fail
              go_roundw
              case rel => exact HREL.out _ (by simp [hx3])
              case measure => simp [intOf]; omega
    · obtain rfl : k = nt := by omega
      have htd : C.tiles = decT l := by rw [HCT.out]; unfold decT; rw [HNT.out]
      have HTD := Lib.hid htd
      obtain ⟨od, hod0⟩ : ∃ od, oddT l 11 k = od := ⟨_, rfl⟩
      rw [hod0]
      have HOD0 : Hid (oddT l 11 (nT l) = od) := Lib.hid (by rw [HNT.out]; exact hod0)
      clear hod0
      obtain ⟨nb, hnb⟩ : ∃ nb : Nat, (N + 7) / 8 = nb := ⟨_, rfl⟩
      have hnb2 : ((N : Int) + 7) / 8 = (nb : Int) := by omega
      have hpe : p + nb + 2 * (ni + nu) ≤ e := by have := HX.out; have := HPP.out; omega
      have hnN : 8 * nb ≤ N + 7 ∧ N ≤ 8 * nb := by omega
      have HNB := Lib.hid hnb
      clear htd hnb
      have h3 := Lib.hid (next_any gl a p e c nb (by omega) hec hmax wr HS7.out.left)
      go_wp2_with fail
      refine h3.out.mono ?_
      rintro e7 w7 ⟨rfl, hw7⟩
      have T7 := HS7.out.to (p + nb)
      rw [← hw7] at T7
      have T7 := Lib.hid T7
      have htr2 := TR2.of HTR.out
      clear hw7 h3 HS7 hnb2 HCT
      go_wp2_with fail
      go_loopw [13, 140] (fun o i wx => ∃ (q : Nat) (C : Cfg), q ≤ nb ∧ i = .int .i64 (q : Int) ∧ o = .bool (od || oddX l p N (8 * q)) ∧ C.tiles = decT l ∧ C.on = bitsAt l p (min N (8 * q)) ∧ TR2 C W H T ∧ GS w wx gc gl a e c (p + nb) C) (fun _ i _ => nb - (intOf i).toNat)
      case atStart => exact ⟨0, C, by omega, rfl, by simp [oddX], HTD.out, by rw [show min N (8 * 0) = 0 by omega]; simp [bitsAt]; exact htr2.2.2.2.1, htr2.1, T7.out⟩
      case round =>
        clear T7 htr2
        obtain ⟨q, C2, hq, rfl, rfl, htd2, hon, htr, hs⟩ := hrel
        have HTD2 := Lib.hid htd2
        have HON := Lib.hid hon
        have HTR2 := Lib.hid htr
        have HS8 := Lib.hid hs
        clear htd2 hon htr hs
        by_cases hlt2 : q < nb
        · have d2 := rd_byte (HRD.out.later HS8.out.gw.below) (k := p + q) (by omega)
          rw [← add_add] at d2
          have hx2 := getD_lt HL.out (p + q)
          obtain ⟨x2, hx2e⟩ : ∃ x2, l.getD (p + q) 0 = x2 := ⟨_, rfl⟩
          rw [hx2e] at d2 hx2
          have HX2 := Lib.hid hx2e
          obtain ⟨od2, hod2⟩ : ∃ od2, (od || oddX l p N (8 * q)) = od2 := ⟨_, rfl⟩
          rw [hod2]
          have HOD2 := Lib.hid hod2
          clear hx2e hod2
          have g0 : (0 : Int) ≤ (q : Int) := by omega
          have g1 : (q : Int) < (nb : Int) := by omega
          go_wp2_with fail
          clear d2
          go_loopw [13, 145] (fun o i wx => ∃ (j : Nat) (C : Cfg), j ≤ 8 ∧ i = .int .i64 (j : Int) ∧ o = .bool (od || oddX l p N (8 * q + j)) ∧ C.tiles = decT l ∧ C.on = bitsAt l p (min N (8 * q + j)) ∧ TR2 C W H T ∧ GS w wx gc gl a e c (p + nb) C) (fun _ i _ => 8 - (intOf i).toNat)
          case atStart => exact ⟨0, C2, by omega, rfl, by rw [Nat.add_zero, HOD2.out], HTD2.out, HON.out, HTR2.out, HS8.out⟩
          case round =>
            clear HS8 HON HTD2 HTR2
            obtain ⟨j, C3, hj, rfl, rfl, htd2, hon, htr, hs⟩ := hrel
            have HTD3 := Lib.hid htd2
            have HON3 := Lib.hid hon
            have HTR3 := Lib.hid htr
            have HS9 := Lib.hid hs
            clear htd2 hon htr hs
            obtain ⟨od3, hod3⟩ : ∃ od3, (od || oddX l p N (8 * q + j)) = od3 := ⟨_, rfl⟩
            rw [hod3]
            have HOD3 := Lib.hid hod3
            clear hod3
            by_cases hj8 : j < 8
            · have hbx := bitsAt_next l p (8 * q + j)
              have hox := oddX_next l p N (8 * q + j)
              rw [show (8 * q + j) / 8 = q by omega, show (8 * q + j) % 8 = j by omega, HX2.out] at hbx hox
              obtain ⟨b1, hb1⟩ : ∃ b1, decide (x2 / 2 ^ j % 2 = 1) = b1 := ⟨_, rfl⟩
              rw [hb1] at hbx hox
              have HBX := Lib.hid hbx
              have HOX := Lib.hid hox
              have HB1 := Lib.hid hb1
              clear hbx hox hb1
              have hbit : (bits .and .u8 ((x2 : Int) / 2 ^ j) 1 == 1) = b1 := by
                have h0 : x2 / 2 ^ j < 256 := Nat.lt_of_le_of_lt (Nat.div_le_self _ _) hx2
                have h1 : ((x2 : Int) / 2 ^ j) = ((x2 / 2 ^ j : Nat) : Int) := by rw [Int.natCast_ediv, Int.natCast_pow]; rfl
                rw [h1, and1_u8 _ h0, bit_eq, HB1.out]
              by_cases hN : 8 * q + j < N
              · have hN1 : (8 : Int) * (q : Int) + (j : Int) < (N : Int) := by omega
                have k4 : wr.cell? ⟨gc, 4, none⟩ = some (.slice C3.AO C3.on.length C3.cO) := HS9.out.gw.box.cell 4
                have f4 := HS9.out.gw.box.free 4
                have hol : C3.on.length ≤ 6000000 := by rw [HON3.out, bitsAt_len]; omega
                go_wp2_with (at_builtin; refine wpList_app_bools rfl (.tmp 161) (.tmp 163) rfl (gc + 1) C3.AO C3.on.length C3.cO C3.on rfl (HS9.out.gw.rO.alloc _) (some ⟨wr.heap.size, 0, none⟩) 1 1 [b1] rfl (rd_bool1 wr _ b1) (by omega) (by have := HS9.out.gw.lt; simp; omega) ?_)
                intro A9 c9 w9 hown9 hg9
                have hg9 : wr.grownBy w9 C3.AO'.ownBlock := (World.grownBy_alloc wr _ _).trans hg9
                have B9 := (HS9.out.gw.grow hg9 (fun g e => own_base HS9.out.gw.rO e)).2.2
                have k9 : w9.cell? ⟨gc, 4, none⟩ = some (.slice C3.AO C3.on.length C3.cO) := B9.cell 4
                have f9 := B9.free 4
                have T10 := Lib.hid (HS9.out.setO hg9 rfl hown9)
                clear B9 hg9 hown9 k4 f4 hbit
                go_wp2_with fail
                go_roundw
                case rel =>
                  refine ⟨j + 1, _, by omega, by go_num, ?_, ?_, ?_, ?_, T10.out⟩
                  · rw [← Nat.add_assoc, HOX.out, decide_eq_false (show ¬ N ≤ 8 * q + j by omega), Bool.false_and, Bool.or_false, HOD3.out]
                  · exact HTD3.out
                  · rw [← Nat.add_assoc, show min N (8 * q + j + 1) = 8 * q + j + 1 by omega, HBX.out]
                    have h := HON3.out
                    rw [show min N (8 * q + j) = 8 * q + j by omega] at h
                    show C3.on ++ [b1] = _
                    rw [h]
                  · exact HTR3.out
                case measure => simp [intOf]; omega
              · have hN1 : decide ((8 : Int) * (q : Int) + (j : Int) < (N : Int)) = false := decide_eq_false (by omega)
                have hrel2 : ∀ o2 : Value, o2 = .bool (od3 || b1) → ∃ (j' : Nat) (C' : Cfg), j' ≤ 8 ∧ Value.int .i64 ((j : Int) + 1) = .int .i64 (j' : Int) ∧ o2 = .bool (od || oddX l p N (8 * q + j')) ∧ C'.tiles = decT l ∧ C'.on = bitsAt l p (min N (8 * q + j')) ∧ TR2 C' W H T ∧ GS w wr gc gl a e c (p + nb) C' := fun o2 ho2 => by
                  refine ⟨j + 1, C3, by omega, by go_num, ?_, HTD3.out, ?_, HTR3.out, HS9.out⟩
                  · rw [ho2, ← Nat.add_assoc, HOX.out, decide_eq_true (show N ≤ 8 * q + j by omega), Bool.true_and, ← Bool.or_assoc, HOD3.out]
                  · have h := HON3.out
                    rw [show min N (8 * q + j) = N by omega] at h
                    rw [← Nat.add_assoc, show min N (8 * q + j + 1) = N by omega]
                    exact h
                have HREL2 := Lib.hid hrel2
                clear hrel2
                cases od3 with
                | true =>
                  go_wp2_with fail
                  go_roundw
                  case rel => exact HREL2.out _ (by simp)
                  case measure => simp [intOf]; omega
                | false =>
                  go_wp2_with fail
                  go_roundw
                  case rel => exact HREL2.out _ (by simp)
                  case measure => simp [intOf]; omega
            · obtain rfl : j = 8 := by omega
              go_wp2_with fail
              go_roundw
              case rel => exact ⟨q + 1, C3, by omega, by go_num, by rw [← HOD3.out, show 8 * (q + 1) = 8 * q + 8 by omega], HTD3.out, by rw [show 8 * (q + 1) = 8 * q + 8 by omega]; exact HON3.out, HTR3.out, HS9.out⟩
              case measure => simp [intOf]; omega
        · obtain rfl : q = nb := by omega
          have hod4 : (od || oddX l p N (8 * q)) = (od || oddS l p N) := by rw [← HNB.out, oddX_full HL.out]
          rw [hod4]
          obtain ⟨odf, hodf⟩ : ∃ odf, (od || oddS l p N) = odf := ⟨_, rfl⟩
          rw [hodf]
          have HODF := Lib.hid hodf
          have htrw : TRW C2 W H T l N := by
            obtain ⟨h1, h2, h3, h4, h5, h6⟩ := HTR2.out
            refine ⟨h1, h2, h3, HTD2.out, ?_⟩
            have h := HON.out
            rw [show min N (8 * q) = N by omega] at h
            rw [h]; unfold decO atS; rw [HNT.out, HPP.out]
          have HTRW := Lib.hid htrw
          have HOUT0 := Lib.hid (And.intro HTR2.out.2.2.2.1 HTR2.out.2.2.2.2)
          clear hod4 hodf htrw HTR2 HON HTD2
          obtain ⟨p2, hp2⟩ : ∃ p2, p + q = p2 := ⟨_, rfl⟩
          rw [hp2] at HS8
          have HP2 : Hid (atS l + (N + 7) / 8 = p2) := Lib.hid (by unfold atS; rw [HNT.out, HPP.out, HNB.out]; exact hp2)
          have hpb : p2 + 2 * (ni + nu) ≤ e := by omega
          clear hp2
          go_wp2_with fail
          go_loopw [173] (fun i wx => ∃ (q : Nat) (C : Cfg), q ≤ ni ∧ i = .int .i64 (q : Int) ∧ TRW C W H T l N ∧ (C.ins = numsAt l p2 q ∧ C.outs = [] ∧ C.AU = none) ∧ GS w wx gc gl a e c (p2 + 2 * q) C) (fun i _ => ni - (intOf i).toNat)
          case atStart => exact ⟨0, C2, by omega, rfl, HTRW.out, ⟨by rw [HOUT0.out.1]; simp [numsAt], HOUT0.out.2.1, HOUT0.out.2.2⟩, HS8.out⟩
          case round =>
            clear HS8 HTRW
            obtain ⟨q, C3, hq, rfl, htr, hin3, hs⟩ := hrel
            have HTRW := Lib.hid htr
            have HIN3 := Lib.hid hin3
            obtain ⟨p5, hp5⟩ : ∃ p5, p2 + 2 * q = p5 := ⟨_, rfl⟩
            rw [hp5] at hs
            have HP5 := Lib.hid hp5
            have HS9 := Lib.hid hs
            clear htr hin3 hs hp5
            by_cases hlt3 : q < ni
            · have hpe5 : p5 + 2 ≤ e := by have := HP5.out; have := HX.out; have := HPP.out; omega
              have HNX := Lib.hid (fun (W : World) (hB : Boxed W gl 48 (.slice (some (a.add p5)) (e - p5) (c - p5))) => next2 gl a p5 e c hpe5 hec hmax W hB)
              have HNM := Lib.hid (fun (W : World) (hW : Below w.heap.size w W) => bnum2 W a n c l (HRD.out.later hW) HL.out (by omega) p5 (by omega) _ rfl)
              have k5 : wr.cell? ⟨gc, 5, none⟩ = some (.slice C3.AI C3.ins.length C3.cI) := HS9.out.gw.box.cell 5
              have hgl2 : gc ≠ gl := by have := HS9.out.hgl; omega
              have hil : C3.ins.length ≤ 100000 := by rw [HIN3.out.1, numsAt_len]; omega
              obtain ⟨i0, hi0, hz0, hz1, hz2⟩ := info_parts int_info
              have HI0 := Lib.hid hi0
              have HZ0 := Lib.hid hz0
              have HZ1 := Lib.hid hz1
              have HZ2 := Lib.hid hz2
              clear hi0 hz0 hz1 hz2
              go_wp2_with fail
              refine wp_region_held_drew (S := (fun _ => True)) (by kernel_rfl) ?_ (fun hHeld => ?_)
              · trivial
              refine wpAnyH_take (i := 0) (oi := { dst := some 175, op := Op.fieldAddr 28 (Operand.tmp 4) 3, type := 0, pos := _, after := #[], guard := none }) (v := ?_) rfl (by kernel_rfl) (by kernel_rfl) (by kernel_rfl) (fun _ _ _ h => h) (Or.inl ⟨by rfl, ?_⟩) (by assumption) ?_
              rotate_left
              · intro w hSw; (try dsimp only at hSw); go_simp; (try with_reducible rfl)
              try simp only [Act.put, List.setIfInBounds_toArray, List.set_cons_zero, List.set_cons_succ]
              refine wpAnyH_take (i := 2) (oi := { dst := some 177, op := Op.move (Operand.tmp 12), type := 93, pos := _, after := #[], guard := none }) (v := ?_) rfl (by kernel_rfl) (by kernel_rfl) (by kernel_rfl) (fun _ _ _ h => h) (Or.inl ⟨by rfl, ?_⟩) (by assumption) ?_
              rotate_left
              · intro w hSw; (try dsimp only at hSw); go_simp; (try with_reducible rfl)
              try simp only [Act.put, List.setIfInBounds_toArray, List.set_cons_zero, List.set_cons_succ]
              refine wpAnyH_ready (rs := [1, 3]) (by kernel_rfl) (by simp) ?_
              refine AllReadyH.cons (o := { dst := some 176, op := Op.load 26 (Operand.tmp 175), type := 26, pos := _, after := #[{ on := 0, ground := Ground.data }], guard := none }) rfl (fun K hK => ?_) (AllReadyH.cons (o := { dst := some 178, op := Op.call { callee := Callee.value (Operand.tmp 177), args := #[Operand.const (Value.int IntKind.i64 2)], argTypes := #[3] }, type := 48, pos := _, after := #[{ on := 2, ground := Ground.data }], guard := none }) rfl (fun K hK => ?_) AllReadyH.nil)
              · skip
                go_simp
                refine hK.out _ _ ?_ (fun hHeld => ?_)
                · trivial
                clear hK K
                try simp only [Act.put, List.setIfInBounds_toArray, List.set_cons_zero, List.set_cons_succ]
                refine wpAnyH_ready (rs := [3]) (by kernel_rfl) (by simp) ?_
                refine AllReadyH.cons (o := { dst := some 178, op := Op.call { callee := Callee.value (Operand.tmp 177), args := #[Operand.const (Value.int IntKind.i64 2)], argTypes := #[3] }, type := 48, pos := _, after := #[{ on := 2, ground := Ground.data }], guard := none }) rfl (fun K hK => ?_) AllReadyH.nil
                go_simp
                with_reducible refine (HNX.out _ ?_).mono ?_
                · exact (HS9.out.drewN 1).left
                rintro e7 w7 ⟨rfl, hw7⟩
                have T7 : GS w w7 gc gl a e c (p5 + 2) C3 := by rw [hw7]; exact (HS9.out.drewN 1).to (p5 + 2)
                have T7 := Lib.hid T7
                clear hw7
                have k7 : w7.cell? ⟨gc, 5, none⟩ = some (.slice C3.AI C3.ins.length C3.cI) := T7.out.gw.box.cell 5
                have k8 : (w7.alloc (.cells #[.int .i64 (num2 l p5 : Int)] 3)).cell? ⟨gc, 5, none⟩ = some (.slice C3.AI C3.ins.length C3.cI) := (T7.out.gw.box.alloc _).cell 5
                refine hK.out _ _ ?_ (fun hHeld => ?_)
                · trivial
                clear hK K
                try simp only [Act.put, List.setIfInBounds_toArray, List.set_cons_zero, List.set_cons_succ]
                refine wpAnyH_ready (rs := [4]) (by kernel_rfl) (by simp) ?_
                refine AllReadyH.cons (o := { dst := some 179, op := Op.call { callee := Callee.value (Operand.func 55), args := #[Operand.tmp 178], argTypes := #[48] }, type := 3, pos := _, after := #[{ on := 3, ground := Ground.data }, { on := 3, ground := Ground.chain }], guard := none }) rfl (fun K hK => ?_) AllReadyH.nil
                go_simp
                with_reducible refine (HNM.out _ ?_).mono ?_
                · exact T7.out.gw.below
                rintro e8 w8 ⟨rfl, hw8⟩
                obtain rfl : w7 = w8 := hw8.symm
                refine hK.out _ _ ?_ (fun hHeld => ?_)
                · trivial
                clear hK K
                try simp only [Act.put, List.setIfInBounds_toArray, List.set_cons_zero, List.set_cons_succ]
                refine wpAnyH_ready (rs := [5]) (by kernel_rfl) (by simp) ?_
                refine AllReadyH.cons (o := { dst := some 180, op := Op.buildSlice 26 1 #[(0, Operand.tmp 179)], type := 26, pos := _, after := #[{ on := 4, ground := Ground.data }], guard := none }) rfl (fun K hK => ?_) AllReadyH.nil
                go_simp
                refine hK.out _ _ ?_ (fun hHeld => ?_)
                · trivial
                clear hK K
                try simp only [Act.put, List.setIfInBounds_toArray, List.set_cons_zero, List.set_cons_succ]
                refine wpAnyH_ready (rs := [6]) (by kernel_rfl) (by simp) ?_
                refine AllReadyH.cons (o := { dst := some 181, op := Op.call { callee := Callee.builtin Builtin.append, args := #[Operand.tmp 176, Operand.tmp 180], argTypes := #[26, 26] }, type := 26, pos := _, after := #[{ on := 1, ground := Ground.data }, { on := 5, ground := Ground.data }, { on := 4, ground := Ground.chain }], guard := none }) rfl (fun K hK => ?_) AllReadyH.nil
                have T8 : GS w (w7.alloc (.cells #[.int .i64 (num2 l p5 : Int)] 3)) gc gl a e c (p5 + 2) C3 := T7.out.keep (below_new _ _)
                have T8 := Lib.hid T8
                refine step_append_lies _ (by rfl) (.tmp 176) (.tmp 180) 26 (by rfl) (gc + 1) 3 i0 (.int .i64 0) 1 8 Tryz.underlying26 HI0.out HZ0.out HZ1.out HZ2.out rfl (by decide) C3.AI' C3.ins.length (ints C3.ins) (by rfl) T8.out.gw.rI ⟨w7.heap.size, 0, none⟩ 1 1 [.int .i64 (num2 l p5 : Int)] (by rfl) rfl (new_cells w7 _ _) (by intro u hu; simp at hu; rcases hu with rfl; rfl) (by decide) (by unfold maxLen; omega) (by omega) (by have := T8.out.gw.lt; omega) (w7.heap.size + 1) (by simp) ?_
                intro g9 cap9 w9 hown9 hg9 hat9 hlt9
                have B9 := (T8.out.gw.grow hg9 (fun g e => own_base T8.out.gw.rI e)).2.2
                have k9 : w9.cell? ⟨gc, 5, none⟩ = some (.slice C3.AI C3.ins.length C3.cI) := B9.cell 5
                have f9 := B9.free 5
                refine hK.out _ _ ?_ (fun hHeld => ?_)
                · trivial
                clear hK K
                try simp only [Act.put, List.setIfInBounds_toArray, List.set_cons_zero, List.set_cons_succ]
                refine wpAnyH_take (i := 7) (oi := { dst := some 182, op := Op.fieldAddr 28 (Operand.tmp 4) 3, type := 0, pos := _, after := #[{ on := 0, ground := Ground.phase }, { on := 1, ground := Ground.phase }, { on := 2, ground := Ground.phase }, { on := 3, ground := Ground.phase }, { on := 4, ground := Ground.phase }, { on := 5, ground := Ground.phase }, { on := 6, ground := Ground.phase }], guard := none }) (v := ?_) rfl (by kernel_rfl) (by kernel_rfl) (by kernel_rfl) (fun _ _ _ h => h) (Or.inl ⟨by rfl, ?_⟩) (by assumption) ?_
                rotate_left
                · intro w hSw; (try dsimp only at hSw); go_simp; (try with_reducible rfl)
                try simp only [Act.put, List.setIfInBounds_toArray, List.set_cons_zero, List.set_cons_succ]
                refine wpAnyH_ready (rs := [8]) (by kernel_rfl) (by simp) ?_
                refine AllReadyH.cons (o := { dst := none, op := Op.store 26 (Operand.tmp 182) (Operand.tmp 181), type := 0, pos := _, after := #[{ on := 7, ground := Ground.data }, { on := 6, ground := Ground.data }, { on := 6, ground := Ground.chain }, { on := 0, ground := Ground.phase }, { on := 1, ground := Ground.phase }, { on := 2, ground := Ground.phase }, { on := 3, ground := Ground.phase }, { on := 4, ground := Ground.phase }, { on := 5, ground := Ground.phase }, { on := 6, ground := Ground.phase }], guard := none }) rfl (fun K hK => ?_) AllReadyH.nil
                go_simp
                refine hK.out _ _ ?_ (fun hHeld => ?_)
                · trivial
                clear hK K
                try simp only [Act.put, List.setIfInBounds_toArray, List.set_cons_zero, List.set_cons_succ]
                refine wpAnyH_done (by kernel_rfl) ?_ _
                have T10 := T8.out.setI (t := (num2 l p5 : Int)) (by rw [show C3.AU' = .slice C3.AU C3.outs.length C3.cU from rfl, HIN3.out.2.2]; rfl) hg9 rfl (by rw [ints_append]; exact hown9)
                generalize w9.setCell ⟨gc, 5, none⟩ (.slice (some ⟨g9, 0, none⟩) (C3.ins.length + 1) cap9) = w10 at T10 ⊢
                have T10 := Lib.hid T10
                clear T8 hg9 hown9 hat9 hlt9 T7 k7 k8 k9 f9 B9 k5 HNM HNX hHeld
                go_wp2_with fail
                go_roundw
                case rel =>
                  refine ⟨q + 1, { C3 with AI := some ⟨g9, 0, none⟩, cI := cap9, ins := C3.ins ++ [(num2 l p5 : Int)] }, by omega, by go_num, HTRW.out, ⟨?_, HIN3.out.2.1, HIN3.out.2.2⟩, by have h := T10.out; have e3 : p2 + 2 * (q + 1) = p5 + 2 := (by have := HP5.out; omega); rw [e3]; exact h⟩
                  show C3.ins ++ [(num2 l p5 : Int)] = _
                  rw [numsAt_next, HP5.out, ← HIN3.out.1]
                case measure => simp [intOf]; omega
              · skip
                go_simp
                with_reducible refine (HNX.out _ ?_).mono ?_
                · exact (HS9.out.drewN 1).left
                rintro e7 w7 ⟨rfl, hw7⟩
                have T7 : GS w w7 gc gl a e c (p5 + 2) C3 := by rw [hw7]; exact (HS9.out.drewN 1).to (p5 + 2)
                have T7 := Lib.hid T7
                clear hw7
                have k7 : w7.cell? ⟨gc, 5, none⟩ = some (.slice C3.AI C3.ins.length C3.cI) := T7.out.gw.box.cell 5
                have k8 : (w7.alloc (.cells #[.int .i64 (num2 l p5 : Int)] 3)).cell? ⟨gc, 5, none⟩ = some (.slice C3.AI C3.ins.length C3.cI) := (T7.out.gw.box.alloc _).cell 5
                refine hK.out _ _ ?_ (fun hHeld => ?_)
                · trivial
                clear hK K
                try simp only [Act.put, List.setIfInBounds_toArray, List.set_cons_zero, List.set_cons_succ]
                refine wpAnyH_ready (rs := [1, 4]) (by kernel_rfl) (by simp) ?_
                refine AllReadyH.cons (o := { dst := some 176, op := Op.load 26 (Operand.tmp 175), type := 26, pos := _, after := #[{ on := 0, ground := Ground.data }], guard := none }) rfl (fun K hK => ?_) (AllReadyH.cons (o := { dst := some 179, op := Op.call { callee := Callee.value (Operand.func 55), args := #[Operand.tmp 178], argTypes := #[48] }, type := 3, pos := _, after := #[{ on := 3, ground := Ground.data }, { on := 3, ground := Ground.chain }], guard := none }) rfl (fun K hK => ?_) AllReadyH.nil)
                · skip
                  go_simp
                  refine hK.out _ _ ?_ (fun hHeld => ?_)
                  · trivial
                  clear hK K
                  try simp only [Act.put, List.setIfInBounds_toArray, List.set_cons_zero, List.set_cons_succ]
                  refine wpAnyH_ready (rs := [4]) (by kernel_rfl) (by simp) ?_
                  refine AllReadyH.cons (o := { dst := some 179, op := Op.call { callee := Callee.value (Operand.func 55), args := #[Operand.tmp 178], argTypes := #[48] }, type := 3, pos := _, after := #[{ on := 3, ground := Ground.data }, { on := 3, ground := Ground.chain }], guard := none }) rfl (fun K hK => ?_) AllReadyH.nil
                  go_simp
                  with_reducible refine (HNM.out _ ?_).mono ?_
                  · exact T7.out.gw.below
                  rintro e8 w8 ⟨rfl, hw8⟩
                  obtain rfl : w7 = w8 := hw8.symm
                  refine hK.out _ _ ?_ (fun hHeld => ?_)
                  · trivial
                  clear hK K
                  try simp only [Act.put, List.setIfInBounds_toArray, List.set_cons_zero, List.set_cons_succ]
                  refine wpAnyH_ready (rs := [5]) (by kernel_rfl) (by simp) ?_
                  refine AllReadyH.cons (o := { dst := some 180, op := Op.buildSlice 26 1 #[(0, Operand.tmp 179)], type := 26, pos := _, after := #[{ on := 4, ground := Ground.data }], guard := none }) rfl (fun K hK => ?_) AllReadyH.nil
                  go_simp
                  refine hK.out _ _ ?_ (fun hHeld => ?_)
                  · trivial
                  clear hK K
                  try simp only [Act.put, List.setIfInBounds_toArray, List.set_cons_zero, List.set_cons_succ]
                  refine wpAnyH_ready (rs := [6]) (by kernel_rfl) (by simp) ?_
                  refine AllReadyH.cons (o := { dst := some 181, op := Op.call { callee := Callee.builtin Builtin.append, args := #[Operand.tmp 176, Operand.tmp 180], argTypes := #[26, 26] }, type := 26, pos := _, after := #[{ on := 1, ground := Ground.data }, { on := 5, ground := Ground.data }, { on := 4, ground := Ground.chain }], guard := none }) rfl (fun K hK => ?_) AllReadyH.nil
                  have T8 : GS w (w7.alloc (.cells #[.int .i64 (num2 l p5 : Int)] 3)) gc gl a e c (p5 + 2) C3 := T7.out.keep (below_new _ _)
                  have T8 := Lib.hid T8
                  refine step_append_lies _ (by rfl) (.tmp 176) (.tmp 180) 26 (by rfl) (gc + 1) 3 i0 (.int .i64 0) 1 8 Tryz.underlying26 HI0.out HZ0.out HZ1.out HZ2.out rfl (by decide) C3.AI' C3.ins.length (ints C3.ins) (by rfl) T8.out.gw.rI ⟨w7.heap.size, 0, none⟩ 1 1 [.int .i64 (num2 l p5 : Int)] (by rfl) rfl (new_cells w7 _ _) (by intro u hu; simp at hu; rcases hu with rfl; rfl) (by decide) (by unfold maxLen; omega) (by omega) (by have := T8.out.gw.lt; omega) (w7.heap.size + 1) (by simp) ?_
                  intro g9 cap9 w9 hown9 hg9 hat9 hlt9
                  have B9 := (T8.out.gw.grow hg9 (fun g e => own_base T8.out.gw.rI e)).2.2
                  have k9 : w9.cell? ⟨gc, 5, none⟩ = some (.slice C3.AI C3.ins.length C3.cI) := B9.cell 5
                  have f9 := B9.free 5
                  refine hK.out _ _ ?_ (fun hHeld => ?_)
                  · trivial
                  clear hK K
                  try simp only [Act.put, List.setIfInBounds_toArray, List.set_cons_zero, List.set_cons_succ]
                  refine wpAnyH_take (i := 7) (oi := { dst := some 182, op := Op.fieldAddr 28 (Operand.tmp 4) 3, type := 0, pos := _, after := #[{ on := 0, ground := Ground.phase }, { on := 1, ground := Ground.phase }, { on := 2, ground := Ground.phase }, { on := 3, ground := Ground.phase }, { on := 4, ground := Ground.phase }, { on := 5, ground := Ground.phase }, { on := 6, ground := Ground.phase }], guard := none }) (v := ?_) rfl (by kernel_rfl) (by kernel_rfl) (by kernel_rfl) (fun _ _ _ h => h) (Or.inl ⟨by rfl, ?_⟩) (by assumption) ?_
                  rotate_left
                  · intro w hSw; (try dsimp only at hSw); go_simp; (try with_reducible rfl)
                  try simp only [Act.put, List.setIfInBounds_toArray, List.set_cons_zero, List.set_cons_succ]
                  refine wpAnyH_ready (rs := [8]) (by kernel_rfl) (by simp) ?_
                  refine AllReadyH.cons (o := { dst := none, op := Op.store 26 (Operand.tmp 182) (Operand.tmp 181), type := 0, pos := _, after := #[{ on := 7, ground := Ground.data }, { on := 6, ground := Ground.data }, { on := 6, ground := Ground.chain }, { on := 0, ground := Ground.phase }, { on := 1, ground := Ground.phase }, { on := 2, ground := Ground.phase }, { on := 3, ground := Ground.phase }, { on := 4, ground := Ground.phase }, { on := 5, ground := Ground.phase }, { on := 6, ground := Ground.phase }], guard := none }) rfl (fun K hK => ?_) AllReadyH.nil
                  go_simp
                  refine hK.out _ _ ?_ (fun hHeld => ?_)
                  · trivial
                  clear hK K
                  try simp only [Act.put, List.setIfInBounds_toArray, List.set_cons_zero, List.set_cons_succ]
                  refine wpAnyH_done (by kernel_rfl) ?_ _
                  have T10 := T8.out.setI (t := (num2 l p5 : Int)) (by rw [show C3.AU' = .slice C3.AU C3.outs.length C3.cU from rfl, HIN3.out.2.2]; rfl) hg9 rfl (by rw [ints_append]; exact hown9)
                  generalize w9.setCell ⟨gc, 5, none⟩ (.slice (some ⟨g9, 0, none⟩) (C3.ins.length + 1) cap9) = w10 at T10 ⊢
                  have T10 := Lib.hid T10
                  clear T8 hg9 hown9 hat9 hlt9 T7 k7 k8 k9 f9 B9 k5 HNM HNX hHeld
                  go_wp2_with fail
                  go_roundw
                  case rel =>
                    refine ⟨q + 1, { C3 with AI := some ⟨g9, 0, none⟩, cI := cap9, ins := C3.ins ++ [(num2 l p5 : Int)] }, by omega, by go_num, HTRW.out, ⟨?_, HIN3.out.2.1, HIN3.out.2.2⟩, by have h := T10.out; have e3 : p2 + 2 * (q + 1) = p5 + 2 := (by have := HP5.out; omega); rw [e3]; exact h⟩
                    show C3.ins ++ [(num2 l p5 : Int)] = _
                    rw [numsAt_next, HP5.out, ← HIN3.out.1]
                  case measure => simp [intOf]; omega
                · skip
                  go_simp
                  with_reducible refine (HNM.out _ ?_).mono ?_
                  · exact T7.out.gw.below
                  rintro e8 w8 ⟨rfl, hw8⟩
                  obtain rfl : w7 = w8 := hw8.symm
                  refine hK.out _ _ ?_ (fun hHeld => ?_)
                  · trivial
                  clear hK K
                  try simp only [Act.put, List.setIfInBounds_toArray, List.set_cons_zero, List.set_cons_succ]
                  refine wpAnyH_ready (rs := [1, 5]) (by kernel_rfl) (by simp) ?_
                  refine AllReadyH.cons (o := { dst := some 176, op := Op.load 26 (Operand.tmp 175), type := 26, pos := _, after := #[{ on := 0, ground := Ground.data }], guard := none }) rfl (fun K hK => ?_) (AllReadyH.cons (o := { dst := some 180, op := Op.buildSlice 26 1 #[(0, Operand.tmp 179)], type := 26, pos := _, after := #[{ on := 4, ground := Ground.data }], guard := none }) rfl (fun K hK => ?_) AllReadyH.nil)
                  · skip
                    go_simp
                    refine hK.out _ _ ?_ (fun hHeld => ?_)
                    · trivial
                    clear hK K
                    try simp only [Act.put, List.setIfInBounds_toArray, List.set_cons_zero, List.set_cons_succ]
                    refine wpAnyH_ready (rs := [5]) (by kernel_rfl) (by simp) ?_
                    refine AllReadyH.cons (o := { dst := some 180, op := Op.buildSlice 26 1 #[(0, Operand.tmp 179)], type := 26, pos := _, after := #[{ on := 4, ground := Ground.data }], guard := none }) rfl (fun K hK => ?_) AllReadyH.nil
                    go_simp
                    refine hK.out _ _ ?_ (fun hHeld => ?_)
                    · trivial
                    clear hK K
                    try simp only [Act.put, List.setIfInBounds_toArray, List.set_cons_zero, List.set_cons_succ]
                    refine wpAnyH_ready (rs := [6]) (by kernel_rfl) (by simp) ?_
                    refine AllReadyH.cons (o := { dst := some 181, op := Op.call { callee := Callee.builtin Builtin.append, args := #[Operand.tmp 176, Operand.tmp 180], argTypes := #[26, 26] }, type := 26, pos := _, after := #[{ on := 1, ground := Ground.data }, { on := 5, ground := Ground.data }, { on := 4, ground := Ground.chain }], guard := none }) rfl (fun K hK => ?_) AllReadyH.nil
                    have T8 : GS w (w7.alloc (.cells #[.int .i64 (num2 l p5 : Int)] 3)) gc gl a e c (p5 + 2) C3 := T7.out.keep (below_new _ _)
                    have T8 := Lib.hid T8
                    refine step_append_lies _ (by rfl) (.tmp 176) (.tmp 180) 26 (by rfl) (gc + 1) 3 i0 (.int .i64 0) 1 8 Tryz.underlying26 HI0.out HZ0.out HZ1.out HZ2.out rfl (by decide) C3.AI' C3.ins.length (ints C3.ins) (by rfl) T8.out.gw.rI ⟨w7.heap.size, 0, none⟩ 1 1 [.int .i64 (num2 l p5 : Int)] (by rfl) rfl (new_cells w7 _ _) (by intro u hu; simp at hu; rcases hu with rfl; rfl) (by decide) (by unfold maxLen; omega) (by omega) (by have := T8.out.gw.lt; omega) (w7.heap.size + 1) (by simp) ?_
                    intro g9 cap9 w9 hown9 hg9 hat9 hlt9
                    have B9 := (T8.out.gw.grow hg9 (fun g e => own_base T8.out.gw.rI e)).2.2
                    have k9 : w9.cell? ⟨gc, 5, none⟩ = some (.slice C3.AI C3.ins.length C3.cI) := B9.cell 5
                    have f9 := B9.free 5
                    refine hK.out _ _ ?_ (fun hHeld => ?_)
                    · trivial
                    clear hK K
                    try simp only [Act.put, List.setIfInBounds_toArray, List.set_cons_zero, List.set_cons_succ]
                    refine wpAnyH_take (i := 7) (oi := { dst := some 182, op := Op.fieldAddr 28 (Operand.tmp 4) 3, type := 0, pos := _, after := #[{ on := 0, ground := Ground.phase }, { on := 1, ground := Ground.phase }, { on := 2, ground := Ground.phase }, { on := 3, ground := Ground.phase }, { on := 4, ground := Ground.phase }, { on := 5, ground := Ground.phase }, { on := 6, ground := Ground.phase }], guard := none }) (v := ?_) rfl (by kernel_rfl) (by kernel_rfl) (by kernel_rfl) (fun _ _ _ h => h) (Or.inl ⟨by rfl, ?_⟩) (by assumption) ?_
                    rotate_left
                    · intro w hSw; (try dsimp only at hSw); go_simp; (try with_reducible rfl)
                    try simp only [Act.put, List.setIfInBounds_toArray, List.set_cons_zero, List.set_cons_succ]
                    refine wpAnyH_ready (rs := [8]) (by kernel_rfl) (by simp) ?_
                    refine AllReadyH.cons (o := { dst := none, op := Op.store 26 (Operand.tmp 182) (Operand.tmp 181), type := 0, pos := _, after := #[{ on := 7, ground := Ground.data }, { on := 6, ground := Ground.data }, { on := 6, ground := Ground.chain }, { on := 0, ground := Ground.phase }, { on := 1, ground := Ground.phase }, { on := 2, ground := Ground.phase }, { on := 3, ground := Ground.phase }, { on := 4, ground := Ground.phase }, { on := 5, ground := Ground.phase }, { on := 6, ground := Ground.phase }], guard := none }) rfl (fun K hK => ?_) AllReadyH.nil
                    go_simp
                    refine hK.out _ _ ?_ (fun hHeld => ?_)
                    · trivial
                    clear hK K
                    try simp only [Act.put, List.setIfInBounds_toArray, List.set_cons_zero, List.set_cons_succ]
                    refine wpAnyH_done (by kernel_rfl) ?_ _
                    have T10 := T8.out.setI (t := (num2 l p5 : Int)) (by rw [show C3.AU' = .slice C3.AU C3.outs.length C3.cU from rfl, HIN3.out.2.2]; rfl) hg9 rfl (by rw [ints_append]; exact hown9)
                    generalize w9.setCell ⟨gc, 5, none⟩ (.slice (some ⟨g9, 0, none⟩) (C3.ins.length + 1) cap9) = w10 at T10 ⊢
                    have T10 := Lib.hid T10
                    clear T8 hg9 hown9 hat9 hlt9 T7 k7 k8 k9 f9 B9 k5 HNM HNX hHeld
                    go_wp2_with fail
                    go_roundw
                    case rel =>
                      refine ⟨q + 1, { C3 with AI := some ⟨g9, 0, none⟩, cI := cap9, ins := C3.ins ++ [(num2 l p5 : Int)] }, by omega, by go_num, HTRW.out, ⟨?_, HIN3.out.2.1, HIN3.out.2.2⟩, by have h := T10.out; have e3 : p2 + 2 * (q + 1) = p5 + 2 := (by have := HP5.out; omega); rw [e3]; exact h⟩
                      show C3.ins ++ [(num2 l p5 : Int)] = _
                      rw [numsAt_next, HP5.out, ← HIN3.out.1]
                    case measure => simp [intOf]; omega
                  · skip
                    go_simp
                    refine hK.out _ _ ?_ (fun hHeld => ?_)
                    · trivial
                    clear hK K
                    try simp only [Act.put, List.setIfInBounds_toArray, List.set_cons_zero, List.set_cons_succ]
                    refine wpAnyH_ready (rs := [1]) (by kernel_rfl) (by simp) ?_
                    refine AllReadyH.cons (o := { dst := some 176, op := Op.load 26 (Operand.tmp 175), type := 26, pos := _, after := #[{ on := 0, ground := Ground.data }], guard := none }) rfl (fun K hK => ?_) AllReadyH.nil
                    go_simp
                    refine hK.out _ _ ?_ (fun hHeld => ?_)
                    · trivial
                    clear hK K
                    try simp only [Act.put, List.setIfInBounds_toArray, List.set_cons_zero, List.set_cons_succ]
                    refine wpAnyH_ready (rs := [6]) (by kernel_rfl) (by simp) ?_
                    refine AllReadyH.cons (o := { dst := some 181, op := Op.call { callee := Callee.builtin Builtin.append, args := #[Operand.tmp 176, Operand.tmp 180], argTypes := #[26, 26] }, type := 26, pos := _, after := #[{ on := 1, ground := Ground.data }, { on := 5, ground := Ground.data }, { on := 4, ground := Ground.chain }], guard := none }) rfl (fun K hK => ?_) AllReadyH.nil
                    have T8 : GS w (w7.alloc (.cells #[.int .i64 (num2 l p5 : Int)] 3)) gc gl a e c (p5 + 2) C3 := T7.out.keep (below_new _ _)
                    have T8 := Lib.hid T8
                    refine step_append_lies _ (by rfl) (.tmp 176) (.tmp 180) 26 (by rfl) (gc + 1) 3 i0 (.int .i64 0) 1 8 Tryz.underlying26 HI0.out HZ0.out HZ1.out HZ2.out rfl (by decide) C3.AI' C3.ins.length (ints C3.ins) (by rfl) T8.out.gw.rI ⟨w7.heap.size, 0, none⟩ 1 1 [.int .i64 (num2 l p5 : Int)] (by rfl) rfl (new_cells w7 _ _) (by intro u hu; simp at hu; rcases hu with rfl; rfl) (by decide) (by unfold maxLen; omega) (by omega) (by have := T8.out.gw.lt; omega) (w7.heap.size + 1) (by simp) ?_
                    intro g9 cap9 w9 hown9 hg9 hat9 hlt9
                    have B9 := (T8.out.gw.grow hg9 (fun g e => own_base T8.out.gw.rI e)).2.2
                    have k9 : w9.cell? ⟨gc, 5, none⟩ = some (.slice C3.AI C3.ins.length C3.cI) := B9.cell 5
                    have f9 := B9.free 5
                    refine hK.out _ _ ?_ (fun hHeld => ?_)
                    · trivial
                    clear hK K
                    try simp only [Act.put, List.setIfInBounds_toArray, List.set_cons_zero, List.set_cons_succ]
                    refine wpAnyH_take (i := 7) (oi := { dst := some 182, op := Op.fieldAddr 28 (Operand.tmp 4) 3, type := 0, pos := _, after := #[{ on := 0, ground := Ground.phase }, { on := 1, ground := Ground.phase }, { on := 2, ground := Ground.phase }, { on := 3, ground := Ground.phase }, { on := 4, ground := Ground.phase }, { on := 5, ground := Ground.phase }, { on := 6, ground := Ground.phase }], guard := none }) (v := ?_) rfl (by kernel_rfl) (by kernel_rfl) (by kernel_rfl) (fun _ _ _ h => h) (Or.inl ⟨by rfl, ?_⟩) (by assumption) ?_
                    rotate_left
                    · intro w hSw; (try dsimp only at hSw); go_simp; (try with_reducible rfl)
                    try simp only [Act.put, List.setIfInBounds_toArray, List.set_cons_zero, List.set_cons_succ]
                    refine wpAnyH_ready (rs := [8]) (by kernel_rfl) (by simp) ?_
                    refine AllReadyH.cons (o := { dst := none, op := Op.store 26 (Operand.tmp 182) (Operand.tmp 181), type := 0, pos := _, after := #[{ on := 7, ground := Ground.data }, { on := 6, ground := Ground.data }, { on := 6, ground := Ground.chain }, { on := 0, ground := Ground.phase }, { on := 1, ground := Ground.phase }, { on := 2, ground := Ground.phase }, { on := 3, ground := Ground.phase }, { on := 4, ground := Ground.phase }, { on := 5, ground := Ground.phase }, { on := 6, ground := Ground.phase }], guard := none }) rfl (fun K hK => ?_) AllReadyH.nil
                    go_simp
                    refine hK.out _ _ ?_ (fun hHeld => ?_)
                    · trivial
                    clear hK K
                    try simp only [Act.put, List.setIfInBounds_toArray, List.set_cons_zero, List.set_cons_succ]
                    refine wpAnyH_done (by kernel_rfl) ?_ _
                    have T10 := T8.out.setI (t := (num2 l p5 : Int)) (by rw [show C3.AU' = .slice C3.AU C3.outs.length C3.cU from rfl, HIN3.out.2.2]; rfl) hg9 rfl (by rw [ints_append]; exact hown9)
                    generalize w9.setCell ⟨gc, 5, none⟩ (.slice (some ⟨g9, 0, none⟩) (C3.ins.length + 1) cap9) = w10 at T10 ⊢
                    have T10 := Lib.hid T10
                    clear T8 hg9 hown9 hat9 hlt9 T7 k7 k8 k9 f9 B9 k5 HNM HNX hHeld
                    go_wp2_with fail
                    go_roundw
                    case rel =>
                      refine ⟨q + 1, { C3 with AI := some ⟨g9, 0, none⟩, cI := cap9, ins := C3.ins ++ [(num2 l p5 : Int)] }, by omega, by go_num, HTRW.out, ⟨?_, HIN3.out.2.1, HIN3.out.2.2⟩, by have h := T10.out; have e3 : p2 + 2 * (q + 1) = p5 + 2 := (by have := HP5.out; omega); rw [e3]; exact h⟩
                      show C3.ins ++ [(num2 l p5 : Int)] = _
                      rw [numsAt_next, HP5.out, ← HIN3.out.1]
                    case measure => simp [intOf]; omega
            · obtain rfl : q = ni := by omega
              have HIN2 : Hid (C3.ins = decI l N) := Lib.hid (by
                rw [HIN3.out.1]; unfold decI nI atP
                rw [HNI.out, HP2.out])
              have HOUT2 := Lib.hid HIN3.out.2.1
              obtain ⟨p3, hp3⟩ : ∃ p3, p5 = p3 := ⟨_, rfl⟩
              rw [hp3] at HS9
              have HP3 : Hid (p2 + 2 * q = p3) := Lib.hid (by rw [← hp3]; exact HP5.out)
              have hpb3 : p3 + 2 * nu ≤ e := by have := HP3.out; omega
              clear hp3 HIN3
              go_wp2_with fail
              go_loopw [185] (fun i wx => ∃ (q : Nat) (C : Cfg), q ≤ nu ∧ i = .int .i64 (q : Int) ∧ TRW C W H T l N ∧ (C.ins = decI l N ∧ C.outs = numsAt l p3 q) ∧ GS w wx gc gl a e c (p3 + 2 * q) C) (fun i _ => nu - (intOf i).toNat)
              case atStart => exact ⟨0, C3, by omega, rfl, HTRW.out, ⟨HIN2.out, by rw [HOUT2.out]; simp [numsAt]⟩, HS9.out⟩
              case round =>
                clear HS9 HTRW HIN2 HOUT2 HP5 C3
                obtain ⟨r, C3, hr, rfl, htr, hin3, hs⟩ := hrel
                have HTRW := Lib.hid htr
                have HIN3 := Lib.hid hin3
                obtain ⟨p5, hp5⟩ : ∃ p5, p3 + 2 * r = p5 := ⟨_, rfl⟩
                rw [hp5] at hs
                have HP5 := Lib.hid hp5
                have HS9 := Lib.hid hs
                clear htr hin3 hs hp5
                by_cases hlt4 : r < nu
                · have hpe5 : p5 + 2 ≤ e := by have := HP5.out; omega
                  have HNX := Lib.hid (fun (W : World) (hB : Boxed W gl 48 (.slice (some (a.add p5)) (e - p5) (c - p5))) => next2 gl a p5 e c hpe5 hec hmax W hB)
                  have HNM := Lib.hid (fun (W : World) (hW : Below w.heap.size w W) => bnum2 W a n c l (HRD.out.later hW) HL.out (by omega) p5 (by omega) _ rfl)
                  have k5 : wr.cell? ⟨gc, 6, none⟩ = some (.slice C3.AU C3.outs.length C3.cU) := HS9.out.gw.box.cell 6
                  have hgl2 : gc ≠ gl := by have := HS9.out.hgl; omega
                  have hil : C3.outs.length ≤ 100000 := by rw [HIN3.out.2, numsAt_len]; omega
                  obtain ⟨i0, hi0, hz0, hz1, hz2⟩ := info_parts int_info
                  have HI0 := Lib.hid hi0
                  have HZ0 := Lib.hid hz0
                  have HZ1 := Lib.hid hz1
                  have HZ2 := Lib.hid hz2
                  clear hi0 hz0 hz1 hz2
                  go_wp2_with fail
                  refine wp_region_held_drew (S := (fun _ => True)) (by kernel_rfl) ?_ (fun hHeld => ?_)
                  · trivial
                  refine wpAnyH_take (i := 0) (oi := { dst := some 187, op := Op.fieldAddr 28 (Operand.tmp 4) 4, type := 0, pos := _, after := #[], guard := none }) (v := ?_) rfl (by kernel_rfl) (by kernel_rfl) (by kernel_rfl) (fun _ _ _ h => h) (Or.inl ⟨by rfl, ?_⟩) (by assumption) ?_
                  rotate_left
                  · intro w hSw; (try dsimp only at hSw); go_simp; (try with_reducible rfl)
                  try simp only [Act.put, List.setIfInBounds_toArray, List.set_cons_zero, List.set_cons_succ]
                  refine wpAnyH_take (i := 2) (oi := { dst := some 189, op := Op.move (Operand.tmp 12), type := 93, pos := _, after := #[], guard := none }) (v := ?_) rfl (by kernel_rfl) (by kernel_rfl) (by kernel_rfl) (fun _ _ _ h => h) (Or.inl ⟨by rfl, ?_⟩) (by assumption) ?_
                  rotate_left
                  · intro w hSw; (try dsimp only at hSw); go_simp; (try with_reducible rfl)
                  try simp only [Act.put, List.setIfInBounds_toArray, List.set_cons_zero, List.set_cons_succ]
                  refine wpAnyH_ready (rs := [1, 3]) (by kernel_rfl) (by simp) ?_
                  refine AllReadyH.cons (o := { dst := some 188, op := Op.load 26 (Operand.tmp 187), type := 26, pos := _, after := #[{ on := 0, ground := Ground.data }], guard := none }) rfl (fun K hK => ?_) (AllReadyH.cons (o := { dst := some 190, op := Op.call { callee := Callee.value (Operand.tmp 189), args := #[Operand.const (Value.int IntKind.i64 2)], argTypes := #[3] }, type := 48, pos := _, after := #[{ on := 2, ground := Ground.data }], guard := none }) rfl (fun K hK => ?_) AllReadyH.nil)
                  · skip
                    go_simp
                    refine hK.out _ _ ?_ (fun hHeld => ?_)
                    · trivial
                    clear hK K
                    try simp only [Act.put, List.setIfInBounds_toArray, List.set_cons_zero, List.set_cons_succ]
                    refine wpAnyH_ready (rs := [3]) (by kernel_rfl) (by simp) ?_
                    refine AllReadyH.cons (o := { dst := some 190, op := Op.call { callee := Callee.value (Operand.tmp 189), args := #[Operand.const (Value.int IntKind.i64 2)], argTypes := #[3] }, type := 48, pos := _, after := #[{ on := 2, ground := Ground.data }], guard := none }) rfl (fun K hK => ?_) AllReadyH.nil
                    go_simp
                    with_reducible refine (HNX.out _ ?_).mono ?_
                    · exact (HS9.out.drewN 1).left
                    rintro e7 w7 ⟨rfl, hw7⟩
                    have T7 : GS w w7 gc gl a e c (p5 + 2) C3 := by rw [hw7]; exact (HS9.out.drewN 1).to (p5 + 2)
                    have T7 := Lib.hid T7
                    clear hw7
                    have k7 : w7.cell? ⟨gc, 6, none⟩ = some (.slice C3.AU C3.outs.length C3.cU) := T7.out.gw.box.cell 6
                    have k8 : (w7.alloc (.cells #[.int .i64 (num2 l p5 : Int)] 3)).cell? ⟨gc, 6, none⟩ = some (.slice C3.AU C3.outs.length C3.cU) := (T7.out.gw.box.alloc _).cell 6
                    refine hK.out _ _ ?_ (fun hHeld => ?_)
                    · trivial
                    clear hK K
                    try simp only [Act.put, List.setIfInBounds_toArray, List.set_cons_zero, List.set_cons_succ]
                    refine wpAnyH_ready (rs := [4]) (by kernel_rfl) (by simp) ?_
                    refine AllReadyH.cons (o := { dst := some 191, op := Op.call { callee := Callee.value (Operand.func 55), args := #[Operand.tmp 190], argTypes := #[48] }, type := 3, pos := _, after := #[{ on := 3, ground := Ground.data }, { on := 3, ground := Ground.chain }], guard := none }) rfl (fun K hK => ?_) AllReadyH.nil
                    go_simp
                    with_reducible refine (HNM.out _ ?_).mono ?_
                    · exact T7.out.gw.below
                    rintro e8 w8 ⟨rfl, hw8⟩
                    obtain rfl : w7 = w8 := hw8.symm
                    refine hK.out _ _ ?_ (fun hHeld => ?_)
                    · trivial
                    clear hK K
                    try simp only [Act.put, List.setIfInBounds_toArray, List.set_cons_zero, List.set_cons_succ]
                    refine wpAnyH_ready (rs := [5]) (by kernel_rfl) (by simp) ?_
                    refine AllReadyH.cons (o := { dst := some 192, op := Op.buildSlice 26 1 #[(0, Operand.tmp 191)], type := 26, pos := _, after := #[{ on := 4, ground := Ground.data }], guard := none }) rfl (fun K hK => ?_) AllReadyH.nil
                    go_simp
                    refine hK.out _ _ ?_ (fun hHeld => ?_)
                    · trivial
                    clear hK K
                    try simp only [Act.put, List.setIfInBounds_toArray, List.set_cons_zero, List.set_cons_succ]
                    refine wpAnyH_ready (rs := [6]) (by kernel_rfl) (by simp) ?_
                    refine AllReadyH.cons (o := { dst := some 193, op := Op.call { callee := Callee.builtin Builtin.append, args := #[Operand.tmp 188, Operand.tmp 192], argTypes := #[26, 26] }, type := 26, pos := _, after := #[{ on := 1, ground := Ground.data }, { on := 5, ground := Ground.data }, { on := 4, ground := Ground.chain }], guard := none }) rfl (fun K hK => ?_) AllReadyH.nil
                    have T8 : GS w (w7.alloc (.cells #[.int .i64 (num2 l p5 : Int)] 3)) gc gl a e c (p5 + 2) C3 := T7.out.keep (below_new _ _)
                    have T8 := Lib.hid T8
                    refine step_append_lies _ (by rfl) (.tmp 188) (.tmp 192) 26 (by rfl) (gc + 1) 3 i0 (.int .i64 0) 1 8 Tryz.underlying26 HI0.out HZ0.out HZ1.out HZ2.out rfl (by decide) C3.AU' C3.outs.length (ints C3.outs) (by rfl) T8.out.gw.rU ⟨w7.heap.size, 0, none⟩ 1 1 [.int .i64 (num2 l p5 : Int)] (by rfl) rfl (new_cells w7 _ _) (by intro u hu; simp at hu; rcases hu with rfl; rfl) (by decide) (by unfold maxLen; omega) (by omega) (by have := T8.out.gw.lt; omega) (w7.heap.size + 1) (by simp) ?_
                    intro g9 cap9 w9 hown9 hg9 hat9 hlt9
                    have B9 := (T8.out.gw.grow hg9 (fun g e => own_base T8.out.gw.rU e)).2.2
                    have k9 : w9.cell? ⟨gc, 6, none⟩ = some (.slice C3.AU C3.outs.length C3.cU) := B9.cell 6
                    have f9 := B9.free 6
                    refine hK.out _ _ ?_ (fun hHeld => ?_)
                    · trivial
                    clear hK K
                    try simp only [Act.put, List.setIfInBounds_toArray, List.set_cons_zero, List.set_cons_succ]
                    refine wpAnyH_take (i := 7) (oi := { dst := some 194, op := Op.fieldAddr 28 (Operand.tmp 4) 4, type := 0, pos := _, after := #[{ on := 0, ground := Ground.phase }, { on := 1, ground := Ground.phase }, { on := 2, ground := Ground.phase }, { on := 3, ground := Ground.phase }, { on := 4, ground := Ground.phase }, { on := 5, ground := Ground.phase }, { on := 6, ground := Ground.phase }], guard := none }) (v := ?_) rfl (by kernel_rfl) (by kernel_rfl) (by kernel_rfl) (fun _ _ _ h => h) (Or.inl ⟨by rfl, ?_⟩) (by assumption) ?_
                    rotate_left
                    · intro w hSw; (try dsimp only at hSw); go_simp; (try with_reducible rfl)
                    try simp only [Act.put, List.setIfInBounds_toArray, List.set_cons_zero, List.set_cons_succ]
                    refine wpAnyH_ready (rs := [8]) (by kernel_rfl) (by simp) ?_
                    refine AllReadyH.cons (o := { dst := none, op := Op.store 26 (Operand.tmp 194) (Operand.tmp 193), type := 0, pos := _, after := #[{ on := 7, ground := Ground.data }, { on := 6, ground := Ground.data }, { on := 6, ground := Ground.chain }, { on := 0, ground := Ground.phase }, { on := 1, ground := Ground.phase }, { on := 2, ground := Ground.phase }, { on := 3, ground := Ground.phase }, { on := 4, ground := Ground.phase }, { on := 5, ground := Ground.phase }, { on := 6, ground := Ground.phase }], guard := none }) rfl (fun K hK => ?_) AllReadyH.nil
                    go_simp
                    refine hK.out _ _ ?_ (fun hHeld => ?_)
                    · trivial
                    clear hK K
                    try simp only [Act.put, List.setIfInBounds_toArray, List.set_cons_zero, List.set_cons_succ]
                    refine wpAnyH_done (by kernel_rfl) ?_ _
                    have T10 := T8.out.setU (A := some ⟨g9, 0, none⟩) (d := cap9) (n := C3.outs.length + 1) (t := (num2 l p5 : Int)) hg9 (by
                      rcases hat9 with h | h
                      · exact .inl (by rw [h]; rfl)
                      · exact .inr (fun g' e' => by simp [Value.ownBlock] at e'; have := T8.out.gw.lt; simp; omega)) rfl (by rw [ints_append]; exact hown9)
                    generalize w9.setCell ⟨gc, 6, none⟩ (.slice (some ⟨g9, 0, none⟩) (C3.outs.length + 1) cap9) = w10 at T10 ⊢
                    have T10 := Lib.hid T10
                    clear T8 hg9 hown9 hat9 hlt9 T7 k7 k8 k9 f9 B9 k5 HNM HNX hHeld
                    go_wp2_with fail
                    go_roundw
                    case rel =>
                      refine ⟨r + 1, { C3 with AU := some ⟨g9, 0, none⟩, cU := cap9, outs := C3.outs ++ [(num2 l p5 : Int)] }, by omega, by go_num, HTRW.out, ⟨HIN3.out.1, ?_⟩, by have h := T10.out; have e3 : p3 + 2 * (r + 1) = p5 + 2 := (by have := HP5.out; omega); rw [e3]; exact h⟩
                      show C3.outs ++ [(num2 l p5 : Int)] = _
                      rw [numsAt_next, HP5.out, ← HIN3.out.2]
                    case measure => simp [intOf]; omega
                  · skip
                    go_simp
                    with_reducible refine (HNX.out _ ?_).mono ?_
                    · exact (HS9.out.drewN 1).left
                    rintro e7 w7 ⟨rfl, hw7⟩
                    have T7 : GS w w7 gc gl a e c (p5 + 2) C3 := by rw [hw7]; exact (HS9.out.drewN 1).to (p5 + 2)
                    have T7 := Lib.hid T7
                    clear hw7
                    have k7 : w7.cell? ⟨gc, 6, none⟩ = some (.slice C3.AU C3.outs.length C3.cU) := T7.out.gw.box.cell 6
                    have k8 : (w7.alloc (.cells #[.int .i64 (num2 l p5 : Int)] 3)).cell? ⟨gc, 6, none⟩ = some (.slice C3.AU C3.outs.length C3.cU) := (T7.out.gw.box.alloc _).cell 6
                    refine hK.out _ _ ?_ (fun hHeld => ?_)
                    · trivial
                    clear hK K
                    try simp only [Act.put, List.setIfInBounds_toArray, List.set_cons_zero, List.set_cons_succ]
                    refine wpAnyH_ready (rs := [1, 4]) (by kernel_rfl) (by simp) ?_
                    refine AllReadyH.cons (o := { dst := some 188, op := Op.load 26 (Operand.tmp 187), type := 26, pos := _, after := #[{ on := 0, ground := Ground.data }], guard := none }) rfl (fun K hK => ?_) (AllReadyH.cons (o := { dst := some 191, op := Op.call { callee := Callee.value (Operand.func 55), args := #[Operand.tmp 190], argTypes := #[48] }, type := 3, pos := _, after := #[{ on := 3, ground := Ground.data }, { on := 3, ground := Ground.chain }], guard := none }) rfl (fun K hK => ?_) AllReadyH.nil)
                    · skip
                      go_simp
                      refine hK.out _ _ ?_ (fun hHeld => ?_)
                      · trivial
                      clear hK K
                      try simp only [Act.put, List.setIfInBounds_toArray, List.set_cons_zero, List.set_cons_succ]
                      refine wpAnyH_ready (rs := [4]) (by kernel_rfl) (by simp) ?_
                      refine AllReadyH.cons (o := { dst := some 191, op := Op.call { callee := Callee.value (Operand.func 55), args := #[Operand.tmp 190], argTypes := #[48] }, type := 3, pos := _, after := #[{ on := 3, ground := Ground.data }, { on := 3, ground := Ground.chain }], guard := none }) rfl (fun K hK => ?_) AllReadyH.nil
                      go_simp
                      with_reducible refine (HNM.out _ ?_).mono ?_
                      · exact T7.out.gw.below
                      rintro e8 w8 ⟨rfl, hw8⟩
                      obtain rfl : w7 = w8 := hw8.symm
                      refine hK.out _ _ ?_ (fun hHeld => ?_)
                      · trivial
                      clear hK K
                      try simp only [Act.put, List.setIfInBounds_toArray, List.set_cons_zero, List.set_cons_succ]
                      refine wpAnyH_ready (rs := [5]) (by kernel_rfl) (by simp) ?_
                      refine AllReadyH.cons (o := { dst := some 192, op := Op.buildSlice 26 1 #[(0, Operand.tmp 191)], type := 26, pos := _, after := #[{ on := 4, ground := Ground.data }], guard := none }) rfl (fun K hK => ?_) AllReadyH.nil
                      go_simp
                      refine hK.out _ _ ?_ (fun hHeld => ?_)
                      · trivial
                      clear hK K
                      try simp only [Act.put, List.setIfInBounds_toArray, List.set_cons_zero, List.set_cons_succ]
                      refine wpAnyH_ready (rs := [6]) (by kernel_rfl) (by simp) ?_
                      refine AllReadyH.cons (o := { dst := some 193, op := Op.call { callee := Callee.builtin Builtin.append, args := #[Operand.tmp 188, Operand.tmp 192], argTypes := #[26, 26] }, type := 26, pos := _, after := #[{ on := 1, ground := Ground.data }, { on := 5, ground := Ground.data }, { on := 4, ground := Ground.chain }], guard := none }) rfl (fun K hK => ?_) AllReadyH.nil
                      have T8 : GS w (w7.alloc (.cells #[.int .i64 (num2 l p5 : Int)] 3)) gc gl a e c (p5 + 2) C3 := T7.out.keep (below_new _ _)
                      have T8 := Lib.hid T8
                      refine step_append_lies _ (by rfl) (.tmp 188) (.tmp 192) 26 (by rfl) (gc + 1) 3 i0 (.int .i64 0) 1 8 Tryz.underlying26 HI0.out HZ0.out HZ1.out HZ2.out rfl (by decide) C3.AU' C3.outs.length (ints C3.outs) (by rfl) T8.out.gw.rU ⟨w7.heap.size, 0, none⟩ 1 1 [.int .i64 (num2 l p5 : Int)] (by rfl) rfl (new_cells w7 _ _) (by intro u hu; simp at hu; rcases hu with rfl; rfl) (by decide) (by unfold maxLen; omega) (by omega) (by have := T8.out.gw.lt; omega) (w7.heap.size + 1) (by simp) ?_
                      intro g9 cap9 w9 hown9 hg9 hat9 hlt9
                      have B9 := (T8.out.gw.grow hg9 (fun g e => own_base T8.out.gw.rU e)).2.2
                      have k9 : w9.cell? ⟨gc, 6, none⟩ = some (.slice C3.AU C3.outs.length C3.cU) := B9.cell 6
                      have f9 := B9.free 6
                      refine hK.out _ _ ?_ (fun hHeld => ?_)
                      · trivial
                      clear hK K
                      try simp only [Act.put, List.setIfInBounds_toArray, List.set_cons_zero, List.set_cons_succ]
                      refine wpAnyH_take (i := 7) (oi := { dst := some 194, op := Op.fieldAddr 28 (Operand.tmp 4) 4, type := 0, pos := _, after := #[{ on := 0, ground := Ground.phase }, { on := 1, ground := Ground.phase }, { on := 2, ground := Ground.phase }, { on := 3, ground := Ground.phase }, { on := 4, ground := Ground.phase }, { on := 5, ground := Ground.phase }, { on := 6, ground := Ground.phase }], guard := none }) (v := ?_) rfl (by kernel_rfl) (by kernel_rfl) (by kernel_rfl) (fun _ _ _ h => h) (Or.inl ⟨by rfl, ?_⟩) (by assumption) ?_
                      rotate_left
                      · intro w hSw; (try dsimp only at hSw); go_simp; (try with_reducible rfl)
                      try simp only [Act.put, List.setIfInBounds_toArray, List.set_cons_zero, List.set_cons_succ]
                      refine wpAnyH_ready (rs := [8]) (by kernel_rfl) (by simp) ?_
                      refine AllReadyH.cons (o := { dst := none, op := Op.store 26 (Operand.tmp 194) (Operand.tmp 193), type := 0, pos := _, after := #[{ on := 7, ground := Ground.data }, { on := 6, ground := Ground.data }, { on := 6, ground := Ground.chain }, { on := 0, ground := Ground.phase }, { on := 1, ground := Ground.phase }, { on := 2, ground := Ground.phase }, { on := 3, ground := Ground.phase }, { on := 4, ground := Ground.phase }, { on := 5, ground := Ground.phase }, { on := 6, ground := Ground.phase }], guard := none }) rfl (fun K hK => ?_) AllReadyH.nil
                      go_simp
                      refine hK.out _ _ ?_ (fun hHeld => ?_)
                      · trivial
                      clear hK K
                      try simp only [Act.put, List.setIfInBounds_toArray, List.set_cons_zero, List.set_cons_succ]
                      refine wpAnyH_done (by kernel_rfl) ?_ _
                      have T10 := T8.out.setU (A := some ⟨g9, 0, none⟩) (d := cap9) (n := C3.outs.length + 1) (t := (num2 l p5 : Int)) hg9 (by
                        rcases hat9 with h | h
                        · exact .inl (by rw [h]; rfl)
                        · exact .inr (fun g' e' => by simp [Value.ownBlock] at e'; have := T8.out.gw.lt; simp; omega)) rfl (by rw [ints_append]; exact hown9)
                      generalize w9.setCell ⟨gc, 6, none⟩ (.slice (some ⟨g9, 0, none⟩) (C3.outs.length + 1) cap9) = w10 at T10 ⊢
                      have T10 := Lib.hid T10
                      clear T8 hg9 hown9 hat9 hlt9 T7 k7 k8 k9 f9 B9 k5 HNM HNX hHeld
                      go_wp2_with fail
                      go_roundw
                      case rel =>
                        refine ⟨r + 1, { C3 with AU := some ⟨g9, 0, none⟩, cU := cap9, outs := C3.outs ++ [(num2 l p5 : Int)] }, by omega, by go_num, HTRW.out, ⟨HIN3.out.1, ?_⟩, by have h := T10.out; have e3 : p3 + 2 * (r + 1) = p5 + 2 := (by have := HP5.out; omega); rw [e3]; exact h⟩
                        show C3.outs ++ [(num2 l p5 : Int)] = _
                        rw [numsAt_next, HP5.out, ← HIN3.out.2]
                      case measure => simp [intOf]; omega
                    · skip
                      go_simp
                      with_reducible refine (HNM.out _ ?_).mono ?_
                      · exact T7.out.gw.below
                      rintro e8 w8 ⟨rfl, hw8⟩
                      obtain rfl : w7 = w8 := hw8.symm
                      refine hK.out _ _ ?_ (fun hHeld => ?_)
                      · trivial
                      clear hK K
                      try simp only [Act.put, List.setIfInBounds_toArray, List.set_cons_zero, List.set_cons_succ]
                      refine wpAnyH_ready (rs := [1, 5]) (by kernel_rfl) (by simp) ?_
                      refine AllReadyH.cons (o := { dst := some 188, op := Op.load 26 (Operand.tmp 187), type := 26, pos := _, after := #[{ on := 0, ground := Ground.data }], guard := none }) rfl (fun K hK => ?_) (AllReadyH.cons (o := { dst := some 192, op := Op.buildSlice 26 1 #[(0, Operand.tmp 191)], type := 26, pos := _, after := #[{ on := 4, ground := Ground.data }], guard := none }) rfl (fun K hK => ?_) AllReadyH.nil)
                      · skip
                        go_simp
                        refine hK.out _ _ ?_ (fun hHeld => ?_)
                        · trivial
                        clear hK K
                        try simp only [Act.put, List.setIfInBounds_toArray, List.set_cons_zero, List.set_cons_succ]
                        refine wpAnyH_ready (rs := [5]) (by kernel_rfl) (by simp) ?_
                        refine AllReadyH.cons (o := { dst := some 192, op := Op.buildSlice 26 1 #[(0, Operand.tmp 191)], type := 26, pos := _, after := #[{ on := 4, ground := Ground.data }], guard := none }) rfl (fun K hK => ?_) AllReadyH.nil
                        go_simp
                        refine hK.out _ _ ?_ (fun hHeld => ?_)
                        · trivial
                        clear hK K
                        try simp only [Act.put, List.setIfInBounds_toArray, List.set_cons_zero, List.set_cons_succ]
                        refine wpAnyH_ready (rs := [6]) (by kernel_rfl) (by simp) ?_
                        refine AllReadyH.cons (o := { dst := some 193, op := Op.call { callee := Callee.builtin Builtin.append, args := #[Operand.tmp 188, Operand.tmp 192], argTypes := #[26, 26] }, type := 26, pos := _, after := #[{ on := 1, ground := Ground.data }, { on := 5, ground := Ground.data }, { on := 4, ground := Ground.chain }], guard := none }) rfl (fun K hK => ?_) AllReadyH.nil
                        have T8 : GS w (w7.alloc (.cells #[.int .i64 (num2 l p5 : Int)] 3)) gc gl a e c (p5 + 2) C3 := T7.out.keep (below_new _ _)
                        have T8 := Lib.hid T8
                        refine step_append_lies _ (by rfl) (.tmp 188) (.tmp 192) 26 (by rfl) (gc + 1) 3 i0 (.int .i64 0) 1 8 Tryz.underlying26 HI0.out HZ0.out HZ1.out HZ2.out rfl (by decide) C3.AU' C3.outs.length (ints C3.outs) (by rfl) T8.out.gw.rU ⟨w7.heap.size, 0, none⟩ 1 1 [.int .i64 (num2 l p5 : Int)] (by rfl) rfl (new_cells w7 _ _) (by intro u hu; simp at hu; rcases hu with rfl; rfl) (by decide) (by unfold maxLen; omega) (by omega) (by have := T8.out.gw.lt; omega) (w7.heap.size + 1) (by simp) ?_
                        intro g9 cap9 w9 hown9 hg9 hat9 hlt9
                        have B9 := (T8.out.gw.grow hg9 (fun g e => own_base T8.out.gw.rU e)).2.2
                        have k9 : w9.cell? ⟨gc, 6, none⟩ = some (.slice C3.AU C3.outs.length C3.cU) := B9.cell 6
                        have f9 := B9.free 6
                        refine hK.out _ _ ?_ (fun hHeld => ?_)
                        · trivial
                        clear hK K
                        try simp only [Act.put, List.setIfInBounds_toArray, List.set_cons_zero, List.set_cons_succ]
                        refine wpAnyH_take (i := 7) (oi := { dst := some 194, op := Op.fieldAddr 28 (Operand.tmp 4) 4, type := 0, pos := _, after := #[{ on := 0, ground := Ground.phase }, { on := 1, ground := Ground.phase }, { on := 2, ground := Ground.phase }, { on := 3, ground := Ground.phase }, { on := 4, ground := Ground.phase }, { on := 5, ground := Ground.phase }, { on := 6, ground := Ground.phase }], guard := none }) (v := ?_) rfl (by kernel_rfl) (by kernel_rfl) (by kernel_rfl) (fun _ _ _ h => h) (Or.inl ⟨by rfl, ?_⟩) (by assumption) ?_
                        rotate_left
                        · intro w hSw; (try dsimp only at hSw); go_simp; (try with_reducible rfl)
                        try simp only [Act.put, List.setIfInBounds_toArray, List.set_cons_zero, List.set_cons_succ]
                        refine wpAnyH_ready (rs := [8]) (by kernel_rfl) (by simp) ?_
                        refine AllReadyH.cons (o := { dst := none, op := Op.store 26 (Operand.tmp 194) (Operand.tmp 193), type := 0, pos := _, after := #[{ on := 7, ground := Ground.data }, { on := 6, ground := Ground.data }, { on := 6, ground := Ground.chain }, { on := 0, ground := Ground.phase }, { on := 1, ground := Ground.phase }, { on := 2, ground := Ground.phase }, { on := 3, ground := Ground.phase }, { on := 4, ground := Ground.phase }, { on := 5, ground := Ground.phase }, { on := 6, ground := Ground.phase }], guard := none }) rfl (fun K hK => ?_) AllReadyH.nil
                        go_simp
                        refine hK.out _ _ ?_ (fun hHeld => ?_)
                        · trivial
                        clear hK K
                        try simp only [Act.put, List.setIfInBounds_toArray, List.set_cons_zero, List.set_cons_succ]
                        refine wpAnyH_done (by kernel_rfl) ?_ _
                        have T10 := T8.out.setU (A := some ⟨g9, 0, none⟩) (d := cap9) (n := C3.outs.length + 1) (t := (num2 l p5 : Int)) hg9 (by
                          rcases hat9 with h | h
                          · exact .inl (by rw [h]; rfl)
                          · exact .inr (fun g' e' => by simp [Value.ownBlock] at e'; have := T8.out.gw.lt; simp; omega)) rfl (by rw [ints_append]; exact hown9)
                        generalize w9.setCell ⟨gc, 6, none⟩ (.slice (some ⟨g9, 0, none⟩) (C3.outs.length + 1) cap9) = w10 at T10 ⊢
                        have T10 := Lib.hid T10
                        clear T8 hg9 hown9 hat9 hlt9 T7 k7 k8 k9 f9 B9 k5 HNM HNX hHeld
                        go_wp2_with fail
                        go_roundw
                        case rel =>
                          refine ⟨r + 1, { C3 with AU := some ⟨g9, 0, none⟩, cU := cap9, outs := C3.outs ++ [(num2 l p5 : Int)] }, by omega, by go_num, HTRW.out, ⟨HIN3.out.1, ?_⟩, by have h := T10.out; have e3 : p3 + 2 * (r + 1) = p5 + 2 := (by have := HP5.out; omega); rw [e3]; exact h⟩
                          show C3.outs ++ [(num2 l p5 : Int)] = _
                          rw [numsAt_next, HP5.out, ← HIN3.out.2]
                        case measure => simp [intOf]; omega
                      · skip
                        go_simp
                        refine hK.out _ _ ?_ (fun hHeld => ?_)
                        · trivial
                        clear hK K
                        try simp only [Act.put, List.setIfInBounds_toArray, List.set_cons_zero, List.set_cons_succ]
                        refine wpAnyH_ready (rs := [1]) (by kernel_rfl) (by simp) ?_
                        refine AllReadyH.cons (o := { dst := some 188, op := Op.load 26 (Operand.tmp 187), type := 26, pos := _, after := #[{ on := 0, ground := Ground.data }], guard := none }) rfl (fun K hK => ?_) AllReadyH.nil
                        go_simp
                        refine hK.out _ _ ?_ (fun hHeld => ?_)
                        · trivial
                        clear hK K
                        try simp only [Act.put, List.setIfInBounds_toArray, List.set_cons_zero, List.set_cons_succ]
                        refine wpAnyH_ready (rs := [6]) (by kernel_rfl) (by simp) ?_
                        refine AllReadyH.cons (o := { dst := some 193, op := Op.call { callee := Callee.builtin Builtin.append, args := #[Operand.tmp 188, Operand.tmp 192], argTypes := #[26, 26] }, type := 26, pos := _, after := #[{ on := 1, ground := Ground.data }, { on := 5, ground := Ground.data }, { on := 4, ground := Ground.chain }], guard := none }) rfl (fun K hK => ?_) AllReadyH.nil
                        have T8 : GS w (w7.alloc (.cells #[.int .i64 (num2 l p5 : Int)] 3)) gc gl a e c (p5 + 2) C3 := T7.out.keep (below_new _ _)
                        have T8 := Lib.hid T8
                        refine step_append_lies _ (by rfl) (.tmp 188) (.tmp 192) 26 (by rfl) (gc + 1) 3 i0 (.int .i64 0) 1 8 Tryz.underlying26 HI0.out HZ0.out HZ1.out HZ2.out rfl (by decide) C3.AU' C3.outs.length (ints C3.outs) (by rfl) T8.out.gw.rU ⟨w7.heap.size, 0, none⟩ 1 1 [.int .i64 (num2 l p5 : Int)] (by rfl) rfl (new_cells w7 _ _) (by intro u hu; simp at hu; rcases hu with rfl; rfl) (by decide) (by unfold maxLen; omega) (by omega) (by have := T8.out.gw.lt; omega) (w7.heap.size + 1) (by simp) ?_
                        intro g9 cap9 w9 hown9 hg9 hat9 hlt9
                        have B9 := (T8.out.gw.grow hg9 (fun g e => own_base T8.out.gw.rU e)).2.2
                        have k9 : w9.cell? ⟨gc, 6, none⟩ = some (.slice C3.AU C3.outs.length C3.cU) := B9.cell 6
                        have f9 := B9.free 6
                        refine hK.out _ _ ?_ (fun hHeld => ?_)
                        · trivial
                        clear hK K
                        try simp only [Act.put, List.setIfInBounds_toArray, List.set_cons_zero, List.set_cons_succ]
                        refine wpAnyH_take (i := 7) (oi := { dst := some 194, op := Op.fieldAddr 28 (Operand.tmp 4) 4, type := 0, pos := _, after := #[{ on := 0, ground := Ground.phase }, { on := 1, ground := Ground.phase }, { on := 2, ground := Ground.phase }, { on := 3, ground := Ground.phase }, { on := 4, ground := Ground.phase }, { on := 5, ground := Ground.phase }, { on := 6, ground := Ground.phase }], guard := none }) (v := ?_) rfl (by kernel_rfl) (by kernel_rfl) (by kernel_rfl) (fun _ _ _ h => h) (Or.inl ⟨by rfl, ?_⟩) (by assumption) ?_
                        rotate_left
                        · intro w hSw; (try dsimp only at hSw); go_simp; (try with_reducible rfl)
                        try simp only [Act.put, List.setIfInBounds_toArray, List.set_cons_zero, List.set_cons_succ]
                        refine wpAnyH_ready (rs := [8]) (by kernel_rfl) (by simp) ?_
                        refine AllReadyH.cons (o := { dst := none, op := Op.store 26 (Operand.tmp 194) (Operand.tmp 193), type := 0, pos := _, after := #[{ on := 7, ground := Ground.data }, { on := 6, ground := Ground.data }, { on := 6, ground := Ground.chain }, { on := 0, ground := Ground.phase }, { on := 1, ground := Ground.phase }, { on := 2, ground := Ground.phase }, { on := 3, ground := Ground.phase }, { on := 4, ground := Ground.phase }, { on := 5, ground := Ground.phase }, { on := 6, ground := Ground.phase }], guard := none }) rfl (fun K hK => ?_) AllReadyH.nil
                        go_simp
                        refine hK.out _ _ ?_ (fun hHeld => ?_)
                        · trivial
                        clear hK K
                        try simp only [Act.put, List.setIfInBounds_toArray, List.set_cons_zero, List.set_cons_succ]
                        refine wpAnyH_done (by kernel_rfl) ?_ _
                        have T10 := T8.out.setU (A := some ⟨g9, 0, none⟩) (d := cap9) (n := C3.outs.length + 1) (t := (num2 l p5 : Int)) hg9 (by
                          rcases hat9 with h | h
                          · exact .inl (by rw [h]; rfl)
                          · exact .inr (fun g' e' => by simp [Value.ownBlock] at e'; have := T8.out.gw.lt; simp; omega)) rfl (by rw [ints_append]; exact hown9)
                        generalize w9.setCell ⟨gc, 6, none⟩ (.slice (some ⟨g9, 0, none⟩) (C3.outs.length + 1) cap9) = w10 at T10 ⊢
                        have T10 := Lib.hid T10
                        clear T8 hg9 hown9 hat9 hlt9 T7 k7 k8 k9 f9 B9 k5 HNM HNX hHeld
                        go_wp2_with fail
                        go_roundw
                        case rel =>
                          refine ⟨r + 1, { C3 with AU := some ⟨g9, 0, none⟩, cU := cap9, outs := C3.outs ++ [(num2 l p5 : Int)] }, by omega, by go_num, HTRW.out, ⟨HIN3.out.1, ?_⟩, by have h := T10.out; have e3 : p3 + 2 * (r + 1) = p5 + 2 := (by have := HP5.out; omega); rw [e3]; exact h⟩
                          show C3.outs ++ [(num2 l p5 : Int)] = _
                          rw [numsAt_next, HP5.out, ← HIN3.out.2]
                        case measure => simp [intOf]; omega
                · obtain rfl : r = nu := by omega
                  have hou : C3.outs = decU l N := by
                    rw [HIN3.out.2]; unfold decU nU
                    have e1 : atP l N + 2 * nI l = p3 := by unfold atP nI; rw [HP2.out, HNI.out]; exact HP3.out
                    rw [e1, HNU.out]
                  have TOLD : Told l C3 := by
                    obtain ⟨h1, h2, h3, h4, h5⟩ := HTRW.out
                    exact ⟨by rw [h1, HW.out], by rw [h2, HH.out], by rw [h3, HT.out], h4, by rw [h5, HN.out], by rw [HIN3.out.1, HN.out], by rw [hou, HN.out]⟩
                  have TOLD := Lib.hid TOLD
                  clear hou
                  have hfw : C3.few := by
                    obtain ⟨h1, h2, h3, h4, h5⟩ := HTRW.out
                    unfold Cfg.few
                    rw [h4, h5, HIN3.out.1, HIN3.out.2]
                    simp only [decT, decO, decI, tilesAt_len, bitsAt_len, numsAt_len]
                    rw [HNT.out, show nI l = q from HNI.out]
                    omega
                  have hE := getE_of (l := l) (by rw [HLN.out]; omega) HM.out (by rw [HW.out, HH.out, HT.out]; exact HOK.out) (by rw [HLN.out]; exact HZ.out) HS.out
                  have hod : (oddT l 11 (nT l) || oddS l (atS l) (gN l)) = odf := by
                    rw [HOD0.out, HN.out, ← HODF.out]
                    unfold atS
                    rw [HNT.out, HPP.out]
                  rw [hod] at hE
                  have HE := Lib.hid hE
                  clear hE hod
                  cases odf with
                  | true =>
                    obtain ⟨k0, k1, k2, k3, k4, k5, k6⟩ := GW.cells HS9.out.gw
                    obtain ⟨r0, r1, r2, r3, r4, r5, r6⟩ := GW.zeros HS9.out.gw
                    obtain ⟨s0, s1, s2, s3, s4, s5, s6⟩ := free_cells HS9.out.gw.res
                    have he : getE l = 310 := by rw [HE.out, if_pos rfl]
                    have HE3 := Lib.hid he
                    clear he
                    go_wp2_with fail
                    rw [← HR.out]
                    exact get_err rfl l w wr _ 310 HS9.out.gw.below HS9.out.gw.res HE3.out (by decide) rfl rfl
                  | false =>
                    by_cases hok : C3.ok
                    · have he : getE l = 0 := by rw [HE.out, if_neg (by simp), if_neg (by rw [← TOLD.out.ok]; exact fun h => h hok)]
                      have HE3 := Lib.hid he
                      have hb9 := bcheck_any C3 wr HS9.out.gw.in_ hfw
                      unfold BCH at hb9
                      rw [show C3.E = 0 from if_pos hok] at hb9
                      have HB9 := Lib.hid hb9
                      obtain ⟨k0, k1, k2, k3, k4, k5, k6⟩ := GW.cells HS9.out.gw
                      clear he hb9 hok
                      go_wp2_with fail
                      refine HB9.out.mono ?_
                      rintro e8 w8 ⟨rfl, hb8⟩
                      have G8 := Lib.hid (HS9.out.gw.keep hb8)
                      clear k0 k1 k2 k3 k4 k5 k6 hb8 HB9
                      obtain ⟨k0, k1, k2, k3, k4, k5, k6⟩ := GW.cells G8.out
                      obtain ⟨r0, r1, r2, r3, r4, r5, r6⟩ := GW.zeros G8.out
                      obtain ⟨s0, s1, s2, s3, s4, s5, s6⟩ := free_cells G8.out.res
                      go_wp2_with fail
                      rw [← HR.out]
                      exact get_yes rfl l w w8 _ gc C3 G8.out HE3.out TOLD.out rfl rfl
                    · have he : getE l = 310 := by rw [HE.out, if_neg (by simp), if_pos (by rw [← TOLD.out.ok]; exact hok)]
                      have HE3 := Lib.hid he
                      have hb9 := bcheck_any C3 wr HS9.out.gw.in_ hfw
                      unfold BCH at hb9
                      rw [show C3.E = 1 from if_neg hok] at hb9
                      have HB9 := Lib.hid hb9
                      obtain ⟨k0, k1, k2, k3, k4, k5, k6⟩ := GW.cells HS9.out.gw
                      clear he hb9 hok
                      go_wp2_with fail
                      refine HB9.out.mono ?_
                      rintro e8 w8 ⟨rfl, hb8⟩
                      have G8 := Lib.hid (HS9.out.gw.keep hb8)
                      clear k0 k1 k2 k3 k4 k5 k6 hb8 HB9
                      obtain ⟨k0, k1, k2, k3, k4, k5, k6⟩ := GW.cells G8.out
                      obtain ⟨r0, r1, r2, r3, r4, r5, r6⟩ := GW.zeros G8.out
                      obtain ⟨s0, s1, s2, s3, s4, s5, s6⟩ := free_cells G8.out.res
                      go_wp2_with fail
                      rw [← HR.out]
                      exact get_err rfl l w w8 _ 310 G8.out.below G8.out.res HE3.out (by decide) rfl rfl
end Go.Proofs.YtoloaecbfglaeaaGreat
