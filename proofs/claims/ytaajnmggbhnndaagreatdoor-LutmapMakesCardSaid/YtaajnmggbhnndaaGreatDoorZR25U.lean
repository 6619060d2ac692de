/- filigreeref25.lut: of a gate's literal, and of any. -/
import Derived.Test.YtaajnmggbhnndaaGreatDoorZR25I
import Derived.Test.YtaajnmggbhnndaaGreatDoorZR25P
import Derived.Test.YtaajnmggbhnndaaGreatDoorZMapT
import Derived.Test.YtaajnmggbhnndaaGreatDoorZR25C
import Derived.Laws.BitsAllLaws
namespace Go.Proofs.YtaajnmggbhnndaaGreatDoor
open Go.RowKit
set_option linter.unusedVariables false
set_option linter.unusedSimpArgs false
theorem Chg.cellAt {w w' : World} {X : Nat → Prop} (h : Chg w w' X) {p : Addr} (hp : p.block < w.heap.size) (hx : ¬ X p.block) : w'.cell? p = w.cell? p := World.cell?_of_block (w := w) (h.block p.block hp hx)
theorem andNot_lut {n T : Nat} (hn : n ≤ 6) (hT : T < 2 ^ 2 ^ n) (hT2 : T < 18446744073709551616) : bits .andNot .u64 (Cut.rows n : Int) (T : Int) = ((T ^^^ Cut.rows n : Nat) : Int) := by
  rw [Go.u64_andNot_nat _ _ (rows_lt n hn).1 hT2, rows_andNot hn hT, Nat.xor_comm]
/-- what lut tells -/
def RLutOut (l : List Int) (T : Nat) (w : World) (r : Ending) (w' : World) : Prop :=
  ∃ A c, r = .returned (.agg #[.slice A l.length c, .int .u64 (T : Int)]) ∧ Below w.heap.size w w' ∧ OwnL w.heap.size w' (A, c, l)
set_option maxRecDepth 100000 in
set_option maxHeartbeats 4000000 in
theorem rlut25_gate (G : AG) (k : Int) (A0 B : Option Addr) (c0_ cB m a x : Nat) (rs : List CR) (w : World) (hf : G.fit) (hm : G.ok ∧ 2 ≤ k ∧ k ≤ 6) (hrs : RowsR w A0 c0_ rs) (hpl : plainR rs = (G.bothTo k (G.cn - 1)).1) (hmm : 2 * G.cn = m)
    (hat : Rd w 1 B m cB (ints ((G.mp k).rowN m))) (hnd : (G.mp k).nd.getD a false = true) (hx : a / 2 = x) (hFx : G.fst ≤ x) :
    Calls Tryz.prog 24 #[.agg #[.int .i64 G.I, .slice G.AF G.fl.length G.cF, .slice G.AA G.an.length G.cA, .slice G.AO G.ou.length G.cO], .slice A0 rs.length c0_, .slice B m cB, .int .i64 (a : Int)] w (RLutOut ((G.mp k).lut a).1 ((G.mp k).lut a).2 w) := by
  have X0 := Lib.hid (Blk.made w 26 #[.int .i64 G.I, .slice G.AF G.fl.length G.cF, .slice G.AA G.an.length G.cA, .slice G.AO G.ou.length G.cO])
  obtain ⟨hrn, hc0⟩ := rows_c0 hm hpl
  have ham : a < m := by have := MP.nd_lt hnd; have h2 : (G.mp k).N = G.cn := rfl; omega
  have hxN : x < G.cn := by omega
  have hok := AG.c0_ok hm (x := x) hFx hxN
  have hlut := AG.lut_gate (G := G) (k := k) a (by rw [hx]; exact hFx)
  have hgood : ∀ z ∈ ((G.mp k).C x), (G.mp k).good (2 * z) := fun z hz => (AG.mp_ok hm).leaf_good hFx hxN (by have := (AG.mp_ok hm).need hnd; rw [hx] at this; exact this) hz
  have hrowN : ∀ b, (G.mp k).good b → ((G.mp k).rowN m).getD b 0 = ((G.mp k).at_ b : Int) := fun b hb => by rw [← hmm]; exact (G.mp k).rowN_at hb
  have hCx : (G.mp k).C x = (G.c0 k x).1.map Int.toNat := rfl
  rw [hCx] at hgood
  rw [hx] at hlut
  have hI0 := hm.1.1
  obtain ⟨h, hh⟩ : ∃ h, G.fl.length = h := ⟨_, rfl⟩
  obtain ⟨F, hF⟩ : ∃ F, G.fst = F := ⟨_, rfl⟩
  obtain ⟨NN, hNN⟩ : ∃ N, G.cn = N := ⟨_, rfl⟩
  have hh3 : h ≤ 1000 := by rw [← hh]; exact hf.f
  have hI3 := hf.i
  have hFI : 1 + G.I + (h : Int) = (F : Int) := by have : G.fst = 1 + G.I.toNat + G.fl.length := rfl; omega
  have hFN : 0 < F ∧ F ≤ NN ∧ NN ≤ F + 1000 := by
    have h1 := G.fst_pos
    have h2 : G.cn = G.fst + G.an.length := rfl
    have := hf.a
    omega
  have hF3 : F ≤ 2001 := by omega
  have hm3 : m ≤ 10000 := by omega
  obtain ⟨M, hMP⟩ : ∃ M, G.mp k = M := ⟨_, rfl⟩
  have hxr : x < rs.length := by rw [hrn]; exact hxN
  obtain ⟨h0, hc⟩ := hc0 x hxr
  obtain ⟨pr, hPR, hprb, r0, hcin⟩ := hrs.at_ hxr
  obtain ⟨pc, hPC, hpcb, c0, c1, hsl⟩ := hcin.at_ h0
  rw [hMP] at hlut hgood hat hrowN ⊢
  rw [hc] at hok hlut hgood
  rw [hNN] at hrn hxN
  rw [hrn]
  rw [hF] at hFx
  rw [hh] at X0 ⊢
  subst hPR
  generalize rs[x] = rx at r0 h0 hcin hPC hpcb c0 c1 hsl hok hlut hgood
  obtain ⟨r1, r2, r3⟩ := rx
  simp only at h0 hPC c0 c1 hsl hok hlut hgood
  subst hPC
  simp only [crv] at r0
  generalize r3[0] = ct at c0 c1 hsl hok hlut hgood
  obtain ⟨⟨l1, l2, l3⟩, t⟩ := ct
  simp only [slv] at c0 c1 hsl hok hlut hgood
  obtain ⟨gr, hgr⟩ : ∃ p, pr.add x = p := ⟨_, rfl⟩
  rw [hgr] at r0
  have hpc0 : pc.add (0 * 2) = pc := rfl
  rw [hpc0] at c0 c1
  obtain ⟨nr, hnr⟩ : ∃ n, r3.length = n := ⟨_, rfl⟩
  rw [hnr] at h0 r0
  have h0' : (0 : Int) < (nr : Int) := by omega
  have HSL := Lib.hid hsl
  have HOK := Lib.hid hok
  have HGD := Lib.hid hgood
  have HRN := Lib.hid hrowN
  have HAT := Lib.hid hat
  have HHX := Lib.hid hx
  have HMM := Lib.hid hmm
  have HNN := Lib.hid hNN
  obtain ⟨ql, hql⟩ : ∃ n, l3.length = n := ⟨_, rfl⟩
  have hql6 : ql ≤ 6 := by rw [← hql]; exact hok.len.1
  have ht64 : t < 18446744073709551616 := hok.u64
  have htsm : t < 2 ^ 2 ^ ql := by rw [← hql]; exact hok.small
  have hxor := andNot_lut hql6 htsm ht64
  have HXOR := Lib.hid hxor
  have HQL := Lib.hid hql
  rw [hql] at c0 hlut
  obtain ⟨ins, hins⟩ : ∃ l : List Int, l3.map (fun z => (M.at_ (2 * z.toNat) : Int)) = l := ⟨_, rfl⟩
  have hinl : ins.length = ql := by rw [← hins, List.length_map]; exact hql
  rw [hins] at hlut
  have HINS := Lib.hid hins
  have HINL := Lib.hid hinl
  rw [hlut]
  obtain ⟨TT, hTT⟩ : ∃ v, (if a % 2 = 1 then t ^^^ Cut.rows ql else t) = v := ⟨_, rfl⟩
  have HTT := Lib.hid hTT
  simp only [hTT]
  clear hTT
  have HBW := Lib.hid hprb
  obtain ⟨I, hI⟩ : ∃ I, G.I = I := ⟨_, rfl⟩
  rw [hI] at hFI hI0 hI3 X0 ⊢
  have hxi : (a : Int) / 2 = (x : Int) := by omega
  have hxN' : (x : Int) < (NN : Int) := by omega
  have hxne : ¬ (x : Int) = 0 := by omega
  have hxF : ¬ (x : Int) < (F : Int) := by omega
  have hwr : IntKind.i64.wrap (1 + I) = 1 + I := IntWalk.i64_in _ (by omega)
  have hwr2 : IntKind.i64.wrap (1 + I + (h : Int)) = (F : Int) := by rw [hFI]; exact IntWalk.i64_in _ (by omega)
  have X1 := Lib.hid (X0.out.alloc (.cells #[.slice none 0 0, .int .u64 0] 41))
  have R1 := Lib.hid (blk_made1 w (.cells #[.int .i64 I, .slice G.AF h G.cF, .slice G.AA G.an.length G.cA, .slice G.AO G.ou.length G.cO] 26) 41 #[.slice none 0 0, .int .u64 0])
  have Q1 := Lib.hid (below_then (below_new w (.cells #[.int .i64 I, .slice G.AF h G.cF, .slice G.AA G.an.length G.cA, .slice G.AO G.ou.length G.cO] 26)) (below_new _ (.cells #[.slice none 0 0, .int .u64 0] 41)))
  have k0 := X1.out.cell 0
  have k1 := X1.out.cell 1
  have e0 := (Q1.out.cell (p := gr) (by rw [← hgr, add_block]; exact hprb)).trans r0
  have e1 := (Q1.out.cell (p := pc) hpcb).trans c0
  have e2 := (Q1.out.cell (p := ⟨pc.block, pc.off + 1, none⟩) hpcb).trans c1
  clear hrn hc0 hok hlut hgood hrowN hCx hm hrs hpl hmm hat hnd hx hh hF hNN hMP hc hcin hsl r0 c0 c1 hnr hql hins hinl hxor hI hf hpcb hprb
  go_enter Tryz.func24, Tryz.ntmps24
  go_upto_region 1 with (fail)
  have hs1 : ((w.alloc (.cells #[.int .i64 I, .slice G.AF h G.cF, .slice G.AA G.an.length G.cA, .slice G.AO G.ou.length G.cO] 26)).alloc (.cells #[.slice none 0 0, .int .u64 0] 41)).heap.size = w.heap.size + 2 := by simp
  have HS1 := Lib.hid hs1
  clear hs1
  generalize ((w.alloc (.cells #[.int .i64 I, .slice G.AF h G.cF, .slice G.AA G.an.length G.cA, .slice G.AO G.ou.length G.cO] 26)).alloc (.cells #[.slice none 0 0, .int .u64 0] 41)) = w1 at X1 R1 Q1 k0 k1 e0 e1 e2 HS1 ⊢
  have kc1 := (Blk.made w1 64 #[.slice l1 ql l2, .int .u64 (t : Int)]).cell 1
  have T2 := Lib.hid (blk_made1 w1 (.cells #[.slice l1 ql l2, .int .u64 (t : Int)] 64) 41 #[.slice none 0 0, .int .u64 (t : Int)])
  have C2 := Lib.hid ((Blk.made w1 64 #[.slice l1 ql l2, .int .u64 (t : Int)]).alloc (.cells #[.slice none 0 0, .int .u64 (t : Int)] 41))
  have B2 := Lib.hid (below_then (below_new w1 (.cells #[.slice l1 ql l2, .int .u64 (t : Int)] 64)) (below_new _ (.cells #[.slice none 0 0, .int .u64 (t : Int)] 41)))
  go_wp2_with fail
  have hs1 := HS1.out
  have R2 := Lib.hid (R1.out.keep B2.out)
  have Q2 := Lib.hid (below_then Q1.out B2.out)
  have hs2 : ((w1.alloc (.cells #[.slice l1 ql l2, .int .u64 (t : Int)] 64)).alloc (.cells #[.slice none 0 0, .int .u64 (t : Int)] 41)).heap.size = w.heap.size + 4 := by simp; omega
  generalize ((w1.alloc (.cells #[.slice l1 ql l2, .int .u64 (t : Int)] 64)).alloc (.cells #[.slice none 0 0, .int .u64 (t : Int)] 41)) = wm at T2 C2 B2 R2 Q2 hs2 ⊢
  generalize hgc : w1.heap.size = gc at T2 C2 ⊢
  have hgc2 : gc = w.heap.size + 2 := by omega
  generalize hg : gc + 1 = g at T2 ⊢
  have hg2 : g = w.heap.size + 3 := by omega
  have hwg : w.heap.size + 1 < gc := by omega
  have hgcg : gc < g := by omega
  have hgm : g < wm.heap.size := by omega
  clear hgc hg kc1 k0 k1 e0 e1 e2 X1 R1 Q1 B2 hgc2 hg2 hs1 hs2
  go_loopw [12] (fun v12 wx => ∃ (y : Nat) (A : Option Addr) (cc : Nat), y ≤ ql ∧ v12 = .int .i64 (y : Int) ∧ Chg wm wx (fun k => k = g) ∧ Blk wx g 41 #[.slice A y cc, .int .u64 (t : Int)] ∧ wx.ownsRow wm.heap.size 3 1 (.slice A y cc) y (ints (ins.take y))) (fun v12 _ => ql - (intOf v12).toNat)
  case atStart => exact ⟨0, none, 0, by omega, rfl, Chg.refl _ _, T2.out, by simpa [ints] using World.ownsRow_nil wm wm.heap.size 3 1⟩
  case round =>
    obtain ⟨y, A, cc, hy, rfl, hch, hbx, hown⟩ := hrel
    obtain ⟨w8, hw8⟩ : ∃ v, v = wr := ⟨_, rfl⟩
    subst hw8
    have C8 := Lib.hid hch
    have T8 := Lib.hid hbx
    have O8 := Lib.hid hown
    have D8 := Lib.hid (show Blk w8 gc 64 #[.slice l1 ql l2, .int .u64 (t : Int)] from hch.blk C2.out (by omega))
    have BW := Lib.hid (show Below w.heap.size w w8 from hch.below Q2.out Q2.out.size (fun k hk => by omega))
    have R8 := Lib.hid (hch.blk R2.out (by omega))
    clear hch hbx hown
    have d0 := D8.out.cell 0
    by_cases hyq : y < ql
    case neg =>
      obtain rfl : y = ql := by omega
      have hlt : ¬ (y : Int) < (y : Int) := by omega
      have htk : ins.take y = ins := List.take_of_length_le (by rw [HINL.out]; exact Nat.le_refl _)
      rw [htk] at O8
      have hci : (Tryz.prog.info? 41).map (·.size) = some 2 := by kernel_rfl
      have t0 := T8.out.cell 0
      have t1 := T8.out.cell 1
      have f0 := R8.out.free 0
      have f1 := R8.out.free 1
      have r0 := R8.out.cell 0
      have r1 := R8.out.cell 1
      clear htk
      rcases Nat.mod_two_eq_zero_or_one a with e | e
      · have h0 : (a : Int) % 2 = 0 := by omega
        have HE := Lib.hid (show ¬ a % 2 = 1 by omega)
        clear e
        go_wp2_with fail
        have hS := ((Chg.set w8 (w.heap.size + 1) 0 (.slice A y cc)).setSame (i := 1) (.int .u64 (t : Int)))
        have R9 := (R8.out.put 0 (.slice A y cc)).put 1 (.int .u64 (t : Int))
        refine bodyPost_ret (v := .agg #[.slice A y cc, .int .u64 (t : Int)]) ?_ rfl ?_
        · exact results_cell_row rfl _ _ (w.heap.size + 1) 41 _ (0, 0) _ rfl R9 Tryz.underlying41 rfl hci
        · refine ⟨A, cc, ?_, hS.below BW.out BW.out.size (fun k hk => by rw [hk]; exact Nat.le_succ _), ?_⟩
          · rw [← HTT.out, if_neg HE.out, HINL.out]
          · have h := hS.own O8.out (fun g' e hk => by have := own_base O8.out e; omega)
            unfold OwnL slv
            rw [HINL.out]
            exact own_base_le h (by omega)
      · have h0 : (a : Int) % 2 = 1 := by omega
        have HE := Lib.hid e
        have HRW := Lib.hid (fun (W : World) => rrows25_any y W hql6)
        have f81 := T8.out.free 1
        have hT9 := (show Blk w8.drew _ _ _ from T8.out).put 1 (.int .u64 ((t ^^^ Cut.rows y : Nat) : Int))
        have hC9 := (show Chg wm w8.drew _ from C8.out.belowB (below_drewN (Below.refl _ _) 1)).setSame (i := 1) (.int .u64 ((t ^^^ Cut.rows y : Nat) : Int))
        have hO9 := (Chg.set w8.drew g 1 (.int .u64 ((t ^^^ Cut.rows y : Nat) : Int))).own (O8.out.drew) (fun g' e hk => own_other O8.out T8.out (by decide) (by rw [e, hk]))
        have hD9 := (Chg.set w8.drew g 1 (.int .u64 ((t ^^^ Cut.rows y : Nat) : Int))).blk (show Blk w8.drew _ _ _ from D8.out) (by omega)
        have hww : w8.drew.setCell ⟨g, 1, none⟩ (.int .u64 ((t ^^^ Cut.rows y : Nat) : Int)) = (w8.setCell ⟨g, 1, none⟩ (.int .u64 ((t ^^^ Cut.rows y : Nat) : Int))).drew := rfl
        rw [hww] at hT9 hC9 hO9 hD9
        have T9 := Lib.hid hT9
        have C9 := Lib.hid hC9
        have O9 := Lib.hid hO9
        have D9 := Lib.hid hD9
        clear hT9 hC9 hO9 hD9 hww
        have hxor := HXOR.out
        obtain ⟨t2, ht2⟩ : ∃ t2, t ^^^ Cut.rows y = t2 := ⟨_, rfl⟩
        have HT2 := Lib.hid ht2
        rw [ht2] at hxor T9 C9 O9 D9
        clear e ht2
        go_upto_region 13 with (fail)
        refine wp_region_held_drew (S := (fun w' => w'.cell? ⟨g, 0, none⟩ = some (.slice A y cc) ∧ w'.cell? ⟨gc, 1, none⟩ = some (.int .u64 (t : Int)))) (by kernel_rfl) ?_ (fun hHeld => ?_)
        · (first | exact ⟨T8.out.cell 0, D8.out.cell 1⟩ | exact ⟨T9.out.cell 0, D9.out.cell 1⟩)
        refine wpAnyH_take (i := 0) (oi := { dst := some 63, op := Op.fieldAddr 41 (Operand.tmp 11) 0, type := 0, pos := _, after := #[], guard := none }) (v := ?_) rfl (by kernel_rfl) (by kernel_rfl) (by kernel_rfl) (fun _ _ _ h => h) (Or.inl ⟨by rfl, ?_⟩) (by assumption) ?_
        rotate_left
        · intro w hSw; (try dsimp only at hSw); go_simp; (try with_reducible rfl)
        try simp only [Act.put, List.setIfInBounds_toArray, List.set_cons_zero, List.set_cons_succ]
        refine wpAnyH_take (i := 1) (oi := { dst := some 64, op := Op.load 24 (Operand.tmp 63), type := 24, pos := _, after := #[{ on := 0, ground := Ground.data }], guard := none }) (v := ?_) rfl (by kernel_rfl) (by kernel_rfl) (by kernel_rfl) (fun _ _ _ h => h) (Or.inl ⟨by rfl, ?_⟩) (by assumption) ?_
        rotate_left
        · intro w hSw; (try dsimp only at hSw); go_simp; (try with_reducible rfl)
        try simp only [Act.put, List.setIfInBounds_toArray, List.set_cons_zero, List.set_cons_succ]
        refine wpAnyH_take (i := 4) (oi := { dst := some 67, op := Op.fieldAddr 64 (Operand.tmp 10) 1, type := 0, pos := _, after := #[], guard := none }) (v := ?_) rfl (by kernel_rfl) (by kernel_rfl) (by kernel_rfl) (fun _ _ _ h => h) (Or.inl ⟨by rfl, ?_⟩) (by assumption) ?_
        rotate_left
        · intro w hSw; (try dsimp only at hSw); go_simp; (try with_reducible rfl)
        try simp only [Act.put, List.setIfInBounds_toArray, List.set_cons_zero, List.set_cons_succ]
        refine wpAnyH_take (i := 5) (oi := { dst := some 68, op := Op.load 39 (Operand.tmp 67), type := 39, pos := _, after := #[{ on := 4, ground := Ground.data }], guard := none }) (v := ?_) rfl (by kernel_rfl) (by kernel_rfl) (by kernel_rfl) (fun _ _ _ h => h) (Or.inl ⟨by rfl, ?_⟩) (by assumption) ?_
        rotate_left
        · intro w hSw; (try dsimp only at hSw); go_simp; (try with_reducible rfl)
        try simp only [Act.put, List.setIfInBounds_toArray, List.set_cons_zero, List.set_cons_succ]
        refine wpAnyH_ready (rs := [2]) (by kernel_rfl) (by simp) ?_
        refine AllReadyH.cons (o := { dst := some 65, op := Op.call { callee := Callee.builtin Builtin.len, args := #[Operand.tmp 64], argTypes := #[24] }, type := 3, pos := _, after := #[{ on := 1, ground := Ground.data }], guard := none }) rfl (fun K hK => ?_) AllReadyH.nil
        go_simp
        refine hK.out _ _ ?_ (fun hHeld => ?_)
        · (first | exact ⟨T8.out.cell 0, D8.out.cell 1⟩ | exact ⟨T9.out.cell 0, D9.out.cell 1⟩)
        clear hK K
        try simp only [Act.put, List.setIfInBounds_toArray, List.set_cons_zero, List.set_cons_succ]
        refine wpAnyH_ready (rs := [3]) (by kernel_rfl) (by simp) ?_
        refine AllReadyH.cons (o := { dst := some 66, op := Op.call { callee := Callee.value (Operand.func 40), args := #[Operand.tmp 65], argTypes := #[3] }, type := 39, pos := _, after := #[{ on := 2, ground := Ground.data }], guard := none }) rfl (fun K hK => ?_) AllReadyH.nil
        go_simp
        with_reducible refine (HRW.out _).mono ?_
        rintro e w7 ⟨rfl, rfl⟩
        refine hK.out _ _ ?_ (fun hHeld => ?_)
        · (first | exact ⟨T8.out.cell 0, D8.out.cell 1⟩ | exact ⟨T9.out.cell 0, D9.out.cell 1⟩)
        clear hK K
        try simp only [Act.put, List.setIfInBounds_toArray, List.set_cons_zero, List.set_cons_succ]
        refine wpAnyH_ready (rs := [6]) (by kernel_rfl) (by simp) ?_
        refine AllReadyH.cons (o := { dst := some 69, op := Op.binOp BinOp.andNot 39 (Operand.tmp 66) (Operand.tmp 68) 39, type := 39, pos := _, after := #[{ on := 3, ground := Ground.data }, { on := 5, ground := Ground.data }], guard := none }) rfl (fun K hK => ?_) AllReadyH.nil
        go_simp
        refine hK.out _ _ ?_ (fun hHeld => ?_)
        · (first | exact ⟨T8.out.cell 0, D8.out.cell 1⟩ | exact ⟨T9.out.cell 0, D9.out.cell 1⟩)
        clear hK K
        try simp only [Act.put, List.setIfInBounds_toArray, List.set_cons_zero, List.set_cons_succ]
        refine wpAnyH_take (i := 7) (oi := { dst := some 70, op := Op.fieldAddr 41 (Operand.tmp 11) 1, type := 0, pos := _, after := #[{ on := 0, ground := Ground.phase }, { on := 1, ground := Ground.phase }, { on := 2, ground := Ground.phase }, { on := 3, ground := Ground.phase }, { on := 4, ground := Ground.phase }, { on := 5, ground := Ground.phase }, { on := 6, ground := Ground.phase }], guard := none }) (v := ?_) rfl (by kernel_rfl) (by kernel_rfl) (by kernel_rfl) (fun _ _ _ h => h) (Or.inl ⟨by rfl, ?_⟩) (by assumption) ?_
        rotate_left
        · intro w hSw; (try dsimp only at hSw); go_simp; (try with_reducible rfl)
        try simp only [Act.put, List.setIfInBounds_toArray, List.set_cons_zero, List.set_cons_succ]
        refine wpAnyH_ready (rs := [8]) (by kernel_rfl) (by simp) ?_
        refine AllReadyH.cons (o := { dst := none, op := Op.store 39 (Operand.tmp 70) (Operand.tmp 69), type := 0, pos := _, after := #[{ on := 7, ground := Ground.data }, { on := 6, ground := Ground.data }, { on := 3, ground := Ground.chain }, { on := 0, ground := Ground.phase }, { on := 1, ground := Ground.phase }, { on := 2, ground := Ground.phase }, { on := 3, ground := Ground.phase }, { on := 4, ground := Ground.phase }, { on := 5, ground := Ground.phase }, { on := 6, ground := Ground.phase }], guard := none }) rfl (fun K hK => ?_) AllReadyH.nil
        go_simp
        refine hK.out _ _ ?_ (fun hHeld => ?_)
        · (first | exact ⟨T8.out.cell 0, D8.out.cell 1⟩ | exact ⟨T9.out.cell 0, D9.out.cell 1⟩)
        clear hK K
        try simp only [Act.put, List.setIfInBounds_toArray, List.set_cons_zero, List.set_cons_succ]
        refine wpAnyH_done (by kernel_rfl) ?_ _
        clear t0 t1 f81
        generalize (w8.setCell ⟨g, 1, none⟩ (.int .u64 (t2 : Int))).drew = w10 at T9 C9 O9 D9 ⊢
        have BW9 := Lib.hid (show Below w.heap.size w w10 from C9.out.below Q2.out Q2.out.size (fun k hk => by omega))
        have R9 := Lib.hid (C9.out.blk R2.out (by omega))
        have t0 := T9.out.cell 0
        have t1 := T9.out.cell 1
        have f0 := R9.out.free 0
        have f1 := R9.out.free 1
        have r0 := R9.out.cell 0
        have r1 := R9.out.cell 1
        go_wp2_with fail
        have hS := ((Chg.set w10 (w.heap.size + 1) 0 (.slice A y cc)).setSame (i := 1) (.int .u64 (t2 : Int)))
        have R10 := (R9.out.put 0 (.slice A y cc)).put 1 (.int .u64 (t2 : Int))
        refine bodyPost_ret (v := .agg #[.slice A y cc, .int .u64 (t2 : Int)]) ?_ rfl ?_
        · exact results_cell_row rfl _ _ (w.heap.size + 1) 41 _ (0, 0) _ rfl R10 Tryz.underlying41 rfl hci
        · refine ⟨A, cc, ?_, hS.below BW9.out BW9.out.size (fun k hk => by rw [hk]; exact Nat.le_succ _), ?_⟩
          · rw [← HTT.out, if_pos HE.out, HINL.out, HT2.out]
          · have h := hS.own O9.out (fun g' e hk => by have := own_base O9.out e; omega)
            unfold OwnL slv
            rw [HINL.out]
            exact own_base_le h (by omega)
    have hyq' : (y : Int) < (ql : Int) := by omega
    have hyl : y < l3.length := by rw [HQL.out]; exact hyq
    obtain ⟨pa, hPA, hpb, e0⟩ := HSL.out.int (k := y) hyl
    have hlv : 1 ≤ l3.getD y 0 ∧ l3.getD y 0 < (x : Int) := HOK.out.lv _ (getD_mem hyl)
    obtain ⟨z, hz⟩ : ∃ z : Nat, l3.getD y 0 = (z : Int) := ⟨(l3.getD y 0).toNat, by omega⟩
    have hzm : 2 * z < m := by have := HMM.out; have := HNN.out; omega
    have hl3 : l3[y] = (z : Int) := by rw [← hz, List.getD_eq_getElem?_getD, List.getElem?_eq_getElem hyl]; rfl
    have hgd := HGD.out z (List.mem_map.2 ⟨l3[y], List.getElem_mem hyl, by rw [hl3]; rfl⟩)
    have hnx : ins.take (y + 1) = ins.take y ++ [(M.at_ (2 * z) : Int)] := by
      have hyi : y < ins.length := by rw [HINL.out]; exact hyq
      rw [List.take_succ_eq_append_getElem hyi]
      have : ins[y] = (M.at_ (2 * z) : Int) := by simp only [← HINS.out, List.getElem_map, hl3, Int.toNat_natCast]
      rw [this]
    have HNX := Lib.hid hnx
    obtain ⟨pb, hPB, hpbb, e1⟩ := HAT.out.int (k := 2 * z) hzm
    rw [HRN.out _ hgd] at e1
    rw [hz] at e0
    subst hPA
    subst hPB
    have hz2 : 2 * (z : Int) = ((2 * z : Nat) : Int) := by omega
    generalize M.at_ (2 * z) = v at e1 HNX
    generalize 2 * z = a2 at hz2 e1 hzm
    have hz2w : IntKind.i64.wrap (a2 : Int) = (a2 : Int) := IntWalk.i64_in _ (by omega)
    have hzm' : (a2 : Int) < (m : Int) := by omega
    have HE0 := Lib.hid ((Q2.out.cell (p := pa.add y) (by rw [add_block]; exact hpb)).trans e0)
    have HE1 := Lib.hid ((Q2.out.cell (p := pb.add a2) (by rw [add_block]; exact hpbb)).trans e1)
    have HPB := Lib.hid hpb
    have HPBB := Lib.hid hpbb
    have HS := Lib.hid (fun (W : World) (hW : Chg wm W (fun k => k = g)) => (⟨(hW.blk C2.out (by omega)).cell 0, (hW.cellAt (p := pa.add y) (by rw [add_block]; omega) (by rw [add_block]; omega)).trans HE0.out, (hW.cellAt (p := pb.add a2) (by rw [add_block]; omega) (by rw [add_block]; omega)).trans HE1.out⟩ : W.cell? ⟨gc, 0, none⟩ = some (.slice (some pa) ql l2) ∧ W.cell? (pa.add y) = some (.int .i64 (z : Int)) ∧ W.cell? (pb.add a2) = some (.int .i64 (v : Int))))
    have k18 := T8.out.cell 0
    have k18b : ∀ o, (w8.alloc o).cell? ⟨g, 0, none⟩ = some (.slice A y cc) := fun o => (T8.out.alloc o).cell 0
    have hsz8 := C8.out.size
    clear hlv hz hnx hl3 hgd e0 e1 hpb hpbb
    go_upto_region 11 with (fail)
    clear d0
    refine wp_region_held_drew (S := (fun w' => w'.cell? ⟨gc, 0, none⟩ = some (.slice (some pa) ql l2) ∧ w'.cell? (pa.add y) = some (.int .i64 (z : Int)) ∧ w'.cell? (pb.add a2) = some (.int .i64 (v : Int)))) (by kernel_rfl) ?_ (fun hHeld => ?_)
    · (first | exact HS.out _ C8.out | exact HS.out _ (C8.out.belowB (below_drewN (Below.refl _ _) 1)) | exact HS.out _ (C8.out.belowB (below_new _ _)) | exact HS.out _ ((C8.out.belowB (below_drewN (Below.refl _ _) 1)).belowB (below_new _ _)) | exact HS.out _ C9.out | exact HS.out _ (C9.out.setSame _))
    refine wpAnyH_take (i := 0) (oi := { dst := some 46, op := Op.fieldAddr 41 (Operand.tmp 11) 0, type := 0, pos := _, after := #[], guard := none }) (v := ?_) rfl (by kernel_rfl) (by kernel_rfl) (by kernel_rfl) (fun _ _ _ h => h) (Or.inl ⟨by rfl, ?_⟩) (by assumption) ?_
    rotate_left
    · intro w hSw; (try dsimp only at hSw); go_simp; (try with_reducible rfl)
    try simp only [Act.put, List.setIfInBounds_toArray, List.set_cons_zero, List.set_cons_succ]
    refine wpAnyH_take (i := 2) (oi := { dst := some 48, op := Op.move (Operand.tmp 2), type := 24, pos := _, after := #[], guard := none }) (v := ?_) rfl (by kernel_rfl) (by kernel_rfl) (by kernel_rfl) (fun _ _ _ h => h) (Or.inl ⟨by rfl, ?_⟩) (by assumption) ?_
    rotate_left
    · intro w hSw; (try dsimp only at hSw); go_simp; (try with_reducible rfl)
    try simp only [Act.put, List.setIfInBounds_toArray, List.set_cons_zero, List.set_cons_succ]
    refine wpAnyH_take (i := 3) (oi := { dst := some 49, op := Op.fieldAddr 64 (Operand.tmp 10) 0, type := 0, pos := _, after := #[], guard := none }) (v := ?_) rfl (by kernel_rfl) (by kernel_rfl) (by kernel_rfl) (fun _ _ _ h => h) (Or.inl ⟨by rfl, ?_⟩) (by assumption) ?_
    rotate_left
    · intro w hSw; (try dsimp only at hSw); go_simp; (try with_reducible rfl)
    try simp only [Act.put, List.setIfInBounds_toArray, List.set_cons_zero, List.set_cons_succ]
    refine wpAnyH_take (i := 4) (oi := { dst := some 50, op := Op.load 24 (Operand.tmp 49), type := 24, pos := _, after := #[{ on := 3, ground := Ground.data }], guard := none }) (v := ?_) rfl (by kernel_rfl) (by kernel_rfl) (by kernel_rfl) (fun _ _ _ h => h) (Or.inl ⟨by rfl, ?_⟩) (by assumption) ?_
    rotate_left
    · intro w hSw; (try dsimp only at hSw); go_simp; (try with_reducible rfl)
    try simp only [Act.put, List.setIfInBounds_toArray, List.set_cons_zero, List.set_cons_succ]
    refine wpAnyH_take (i := 5) (oi := { dst := some 51, op := Op.move (Operand.tmp 12), type := 3, pos := _, after := #[], guard := none }) (v := ?_) rfl (by kernel_rfl) (by kernel_rfl) (by kernel_rfl) (fun _ _ _ h => h) (Or.inl ⟨by rfl, ?_⟩) (by assumption) ?_
    rotate_left
    · intro w hSw; (try dsimp only at hSw); go_simp; (try with_reducible rfl)
    try simp only [Act.put, List.setIfInBounds_toArray, List.set_cons_zero, List.set_cons_succ]
    refine wpAnyH_take (i := 6) (oi := { dst := some 52, op := Op.indexAddr 24 (Operand.tmp 50) (Operand.tmp 51), type := 0, pos := _, after := #[{ on := 4, ground := Ground.data }, { on := 5, ground := Ground.data }], guard := none }) (v := ?_) rfl (by kernel_rfl) (by kernel_rfl) (by kernel_rfl) (fun _ _ _ h => h) (Or.inl ⟨by rfl, ?_⟩) (by assumption) ?_
    rotate_left
    · intro w hSw; (try dsimp only at hSw); go_simp; (try with_reducible rfl)
    try simp only [Act.put, List.setIfInBounds_toArray, List.set_cons_zero, List.set_cons_succ]
    refine wpAnyH_take (i := 7) (oi := { dst := some 53, op := Op.load 3 (Operand.tmp 52), type := 3, pos := _, after := #[{ on := 6, ground := Ground.data }], guard := none }) (v := ?_) rfl (by kernel_rfl) (by kernel_rfl) (by kernel_rfl) (fun _ _ _ h => h) (Or.inl ⟨by rfl, ?_⟩) (by assumption) ?_
    rotate_left
    · intro w hSw; (try dsimp only at hSw); go_simp; (try with_reducible rfl)
    try simp only [Act.put, List.setIfInBounds_toArray, List.set_cons_zero, List.set_cons_succ]
    refine wpAnyH_take (i := 8) (oi := { dst := some 54, op := Op.binOp BinOp.mul 3 (Operand.const (Value.int IntKind.i64 2)) (Operand.tmp 53) 3, type := 3, pos := _, after := #[{ on := 7, ground := Ground.data }], guard := none }) (v := ?_) rfl (by kernel_rfl) (by kernel_rfl) (by kernel_rfl) (fun _ _ _ h => h) (Or.inl ⟨by rfl, ?_⟩) (by assumption) ?_
    rotate_left
    · intro w hSw; (try dsimp only at hSw); go_simp; (try with_reducible rfl)
    try simp only [Act.put, List.setIfInBounds_toArray, List.set_cons_zero, List.set_cons_succ]
    refine wpAnyH_take (i := 9) (oi := { dst := some 55, op := Op.indexAddr 24 (Operand.tmp 48) (Operand.tmp 54), type := 0, pos := _, after := #[{ on := 2, ground := Ground.data }, { on := 8, ground := Ground.data }], guard := none }) (v := ?_) rfl (by kernel_rfl) (by kernel_rfl) (by kernel_rfl) (fun _ _ _ h => h) (Or.inl ⟨by rfl, ?_⟩) (by assumption) ?_
    rotate_left
    · intro w hSw; (try dsimp only at hSw); go_simp; (try with_reducible rfl)
    try simp only [Act.put, List.setIfInBounds_toArray, List.set_cons_zero, List.set_cons_succ]
    refine wpAnyH_take (i := 10) (oi := { dst := some 56, op := Op.load 3 (Operand.tmp 55), type := 3, pos := _, after := #[{ on := 9, ground := Ground.data }], guard := none }) (v := ?_) rfl (by kernel_rfl) (by kernel_rfl) (by kernel_rfl) (fun _ _ _ h => h) (Or.inl ⟨by rfl, ?_⟩) (by assumption) ?_
    rotate_left
    · intro w hSw; (try dsimp only at hSw); go_simp; (try with_reducible rfl)
    try simp only [Act.put, List.setIfInBounds_toArray, List.set_cons_zero, List.set_cons_succ]
    refine wpAnyH_ready (rs := [1, 11]) (by kernel_rfl) (by simp) ?_
    refine AllReadyH.cons (o := { dst := some 47, op := Op.load 24 (Operand.tmp 46), type := 24, pos := _, after := #[{ on := 0, ground := Ground.data }], guard := none }) rfl (fun K hK => ?_) (AllReadyH.cons (o := { dst := some 57, op := Op.buildSlice 24 1 #[(0, Operand.tmp 56)], type := 24, pos := _, after := #[{ on := 10, ground := Ground.data }], guard := none }) rfl (fun K hK => ?_) AllReadyH.nil)
    · skip
      go_simp
      refine hK.out _ _ ?_ (fun hHeld => ?_)
      · (first | exact HS.out _ C8.out | exact HS.out _ (C8.out.belowB (below_drewN (Below.refl _ _) 1)) | exact HS.out _ (C8.out.belowB (below_new _ _)) | exact HS.out _ ((C8.out.belowB (below_drewN (Below.refl _ _) 1)).belowB (below_new _ _)) | exact HS.out _ C9.out | exact HS.out _ (C9.out.setSame _))
      clear hK K
      try simp only [Act.put, List.setIfInBounds_toArray, List.set_cons_zero, List.set_cons_succ]
      refine wpAnyH_ready (rs := [11]) (by kernel_rfl) (by simp) ?_
      refine AllReadyH.cons (o := { dst := some 57, op := Op.buildSlice 24 1 #[(0, Operand.tmp 56)], type := 24, pos := _, after := #[{ on := 10, ground := Ground.data }], guard := none }) rfl (fun K hK => ?_) AllReadyH.nil
      go_simp
      refine hK.out _ _ ?_ (fun hHeld => ?_)
      · (first | exact HS.out _ C8.out | exact HS.out _ (C8.out.belowB (below_drewN (Below.refl _ _) 1)) | exact HS.out _ (C8.out.belowB (below_new _ _)) | exact HS.out _ ((C8.out.belowB (below_drewN (Below.refl _ _) 1)).belowB (below_new _ _)) | exact HS.out _ C9.out | exact HS.out _ (C9.out.setSame _))
      clear hK K
      try simp only [Act.put, List.setIfInBounds_toArray, List.set_cons_zero, List.set_cons_succ]
      refine wpAnyH_ready (rs := [12]) (by kernel_rfl) (by simp) ?_
      refine AllReadyH.cons (o := { dst := some 58, op := Op.call { callee := Callee.builtin Builtin.append, args := #[Operand.tmp 47, Operand.tmp 57], argTypes := #[24, 24] }, type := 24, pos := _, after := #[{ on := 1, ground := Ground.data }, { on := 11, ground := Ground.data }], guard := none }) rfl (fun K hK => ?_) AllReadyH.nil
      have O9 := Lib.hid ((O8.out.drew).alloc (.cells #[.int .i64 (v : Int)] 3))
      obtain ⟨A9, k9, u9, hrun9, hown9, hgr9, hat9⟩ := app_run 24 3 24 Tryz.underlying24 _ 1 8 int_infoA rfl (by decide) (by decide) wm.heap.size A y cc (ints (ins.take y)) O9.out ⟨w8.drew.heap.size, 0, none⟩ 1 [.int .i64 (v : Int)] (rd_of_blk (cs := [.int .i64 (v : Int)]) (Blk.made w8.drew 3 #[.int .i64 (v : Int)]) 1 1 rfl) (fun u hu => by rw [List.mem_singleton] at hu; subst hu; rfl) (by omega) (by have := C8.out.size; simp; omega)
      refine step_app_run (by rfl) (.tmp 47) (.tmp 57) 24 24 (by rfl) (.slice A y cc) (.slice (some ⟨w8.heap.size, 0, none⟩) 1 1) (by rfl) (by rfl) hrun9 ?_
      have T9 := Lib.hid (((show Blk w8.drew _ _ _ from T8.out).alloc (.cells #[.int .i64 (v : Int)] 3)).grown hgr9 (fun e => own_other O8.out T8.out (by decide) (by rw [own_blk]; exact e.symm)))
      have C9 := Lib.hid (((C8.out.belowB (below_drewN (Below.refl _ _) 1)).belowB (below_new w8.drew (.cells #[.int .i64 (v : Int)] 3))).grownHi hgr9 (fun k hk => by have := own_base O8.out (by rw [own_blk]; exact hk); omega))
      have O10 := Lib.hid (show u9.ownsRow wm.heap.size 3 1 (.slice A9 (y + 1) k9) (y + 1) (ints (ins.take (y + 1))) from by rw [HNX.out, ints_append]; exact hown9)
      have k18c := T9.out.cell 0
      have f18c := T9.out.free 0
      clear hown9 hgr9 hat9 hrun9
      refine hK.out _ _ ?_ (fun hHeld => ?_)
      · (first | exact HS.out _ C8.out | exact HS.out _ (C8.out.belowB (below_drewN (Below.refl _ _) 1)) | exact HS.out _ (C8.out.belowB (below_new _ _)) | exact HS.out _ ((C8.out.belowB (below_drewN (Below.refl _ _) 1)).belowB (below_new _ _)) | exact HS.out _ C9.out | exact HS.out _ (C9.out.setSame _))
      clear hK K
      try simp only [Act.put, List.setIfInBounds_toArray, List.set_cons_zero, List.set_cons_succ]
      refine wpAnyH_take (i := 13) (oi := { dst := some 59, op := Op.fieldAddr 41 (Operand.tmp 11) 0, type := 0, pos := _, after := #[{ on := 0, ground := Ground.phase }, { on := 1, ground := Ground.phase }, { on := 2, ground := Ground.phase }, { on := 3, ground := Ground.phase }, { on := 4, ground := Ground.phase }, { on := 5, ground := Ground.phase }, { on := 6, ground := Ground.phase }, { on := 7, ground := Ground.phase }, { on := 8, ground := Ground.phase }, { on := 9, ground := Ground.phase }, { on := 10, ground := Ground.phase }, { on := 11, ground := Ground.phase }, { on := 12, ground := Ground.phase }], guard := none }) (v := ?_) rfl (by kernel_rfl) (by kernel_rfl) (by kernel_rfl) (fun _ _ _ h => h) (Or.inl ⟨by rfl, ?_⟩) (by assumption) ?_
      rotate_left
      · intro w hSw; (try dsimp only at hSw); go_simp; (try with_reducible rfl)
      try simp only [Act.put, List.setIfInBounds_toArray, List.set_cons_zero, List.set_cons_succ]
      refine wpAnyH_ready (rs := [14]) (by kernel_rfl) (by simp) ?_
      refine AllReadyH.cons (o := { dst := none, op := Op.store 24 (Operand.tmp 59) (Operand.tmp 58), type := 0, pos := _, after := #[{ on := 13, ground := Ground.data }, { on := 12, ground := Ground.data }, { on := 12, ground := Ground.chain }, { on := 0, ground := Ground.phase }, { on := 1, ground := Ground.phase }, { on := 2, ground := Ground.phase }, { on := 3, ground := Ground.phase }, { on := 4, ground := Ground.phase }, { on := 5, ground := Ground.phase }, { on := 6, ground := Ground.phase }, { on := 7, ground := Ground.phase }, { on := 8, ground := Ground.phase }, { on := 9, ground := Ground.phase }, { on := 10, ground := Ground.phase }, { on := 11, ground := Ground.phase }, { on := 12, ground := Ground.phase }], guard := none }) rfl (fun K hK => ?_) AllReadyH.nil
      go_simp
      refine hK.out _ _ ?_ (fun hHeld => ?_)
      · (first | exact HS.out _ C8.out | exact HS.out _ (C8.out.belowB (below_drewN (Below.refl _ _) 1)) | exact HS.out _ (C8.out.belowB (below_new _ _)) | exact HS.out _ ((C8.out.belowB (below_drewN (Below.refl _ _) 1)).belowB (below_new _ _)) | exact HS.out _ C9.out | exact HS.out _ (C9.out.setSame _))
      clear hK K
      try simp only [Act.put, List.setIfInBounds_toArray, List.set_cons_zero, List.set_cons_succ]
      refine wpAnyH_done (by kernel_rfl) ?_ _
      have T10 := Lib.hid (T9.out.put 0 (.slice A9 (y + 1) k9))
      have C10 := Lib.hid (C9.out.setSame (i := 0) (.slice A9 (y + 1) k9))
      have O11 := Lib.hid ((Chg.set u9 g 0 (.slice A9 (y + 1) k9)).own O10.out (fun g' e hk => own_other O10.out T9.out (by decide) (by rw [e, hk])))
      clear k18 k18b k18c f18c
      generalize u9.setCell ⟨g, 0, none⟩ (.slice A9 (y + 1) k9) = w10 at T10 C10 O11 ⊢
      go_wp2_with fail
      go_roundw
      case rel => exact ⟨y + 1, A9, k9, by omega, by go_num, C10.out, T10.out, O11.out⟩
      case measure => simp [intOf]; omega
    · skip
      go_simp
      refine hK.out _ _ ?_ (fun hHeld => ?_)
      · (first | exact HS.out _ C8.out | exact HS.out _ (C8.out.belowB (below_drewN (Below.refl _ _) 1)) | exact HS.out _ (C8.out.belowB (below_new _ _)) | exact HS.out _ ((C8.out.belowB (below_drewN (Below.refl _ _) 1)).belowB (below_new _ _)) | exact HS.out _ C9.out | exact HS.out _ (C9.out.setSame _))
      clear hK K
      try simp only [Act.put, List.setIfInBounds_toArray, List.set_cons_zero, List.set_cons_succ]
      refine wpAnyH_ready (rs := [1]) (by kernel_rfl) (by simp) ?_
      refine AllReadyH.cons (o := { dst := some 47, op := Op.load 24 (Operand.tmp 46), type := 24, pos := _, after := #[{ on := 0, ground := Ground.data }], guard := none }) rfl (fun K hK => ?_) AllReadyH.nil
      go_simp
      refine hK.out _ _ ?_ (fun hHeld => ?_)
      · (first | exact HS.out _ C8.out | exact HS.out _ (C8.out.belowB (below_drewN (Below.refl _ _) 1)) | exact HS.out _ (C8.out.belowB (below_new _ _)) | exact HS.out _ ((C8.out.belowB (below_drewN (Below.refl _ _) 1)).belowB (below_new _ _)) | exact HS.out _ C9.out | exact HS.out _ (C9.out.setSame _))
      clear hK K
      try simp only [Act.put, List.setIfInBounds_toArray, List.set_cons_zero, List.set_cons_succ]
      refine wpAnyH_ready (rs := [12]) (by kernel_rfl) (by simp) ?_
      refine AllReadyH.cons (o := { dst := some 58, op := Op.call { callee := Callee.builtin Builtin.append, args := #[Operand.tmp 47, Operand.tmp 57], argTypes := #[24, 24] }, type := 24, pos := _, after := #[{ on := 1, ground := Ground.data }, { on := 11, ground := Ground.data }], guard := none }) rfl (fun K hK => ?_) AllReadyH.nil
      have O9 := Lib.hid ((O8.out.drew).alloc (.cells #[.int .i64 (v : Int)] 3))
      obtain ⟨A9, k9, u9, hrun9, hown9, hgr9, hat9⟩ := app_run 24 3 24 Tryz.underlying24 _ 1 8 int_infoA rfl (by decide) (by decide) wm.heap.size A y cc (ints (ins.take y)) O9.out ⟨w8.drew.heap.size, 0, none⟩ 1 [.int .i64 (v : Int)] (rd_of_blk (cs := [.int .i64 (v : Int)]) (Blk.made w8.drew 3 #[.int .i64 (v : Int)]) 1 1 rfl) (fun u hu => by rw [List.mem_singleton] at hu; subst hu; rfl) (by omega) (by have := C8.out.size; simp; omega)
      refine step_app_run (by rfl) (.tmp 47) (.tmp 57) 24 24 (by rfl) (.slice A y cc) (.slice (some ⟨w8.heap.size, 0, none⟩) 1 1) (by rfl) (by rfl) hrun9 ?_
      have T9 := Lib.hid (((show Blk w8.drew _ _ _ from T8.out).alloc (.cells #[.int .i64 (v : Int)] 3)).grown hgr9 (fun e => own_other O8.out T8.out (by decide) (by rw [own_blk]; exact e.symm)))
      have C9 := Lib.hid (((C8.out.belowB (below_drewN (Below.refl _ _) 1)).belowB (below_new w8.drew (.cells #[.int .i64 (v : Int)] 3))).grownHi hgr9 (fun k hk => by have := own_base O8.out (by rw [own_blk]; exact hk); omega))
      have O10 := Lib.hid (show u9.ownsRow wm.heap.size 3 1 (.slice A9 (y + 1) k9) (y + 1) (ints (ins.take (y + 1))) from by rw [HNX.out, ints_append]; exact hown9)
      have k18c := T9.out.cell 0
      have f18c := T9.out.free 0
      clear hown9 hgr9 hat9 hrun9
      refine hK.out _ _ ?_ (fun hHeld => ?_)
      · (first | exact HS.out _ C8.out | exact HS.out _ (C8.out.belowB (below_drewN (Below.refl _ _) 1)) | exact HS.out _ (C8.out.belowB (below_new _ _)) | exact HS.out _ ((C8.out.belowB (below_drewN (Below.refl _ _) 1)).belowB (below_new _ _)) | exact HS.out _ C9.out | exact HS.out _ (C9.out.setSame _))
      clear hK K
      try simp only [Act.put, List.setIfInBounds_toArray, List.set_cons_zero, List.set_cons_succ]
      refine wpAnyH_take (i := 13) (oi := { dst := some 59, op := Op.fieldAddr 41 (Operand.tmp 11) 0, type := 0, pos := _, after := #[{ on := 0, ground := Ground.phase }, { on := 1, ground := Ground.phase }, { on := 2, ground := Ground.phase }, { on := 3, ground := Ground.phase }, { on := 4, ground := Ground.phase }, { on := 5, ground := Ground.phase }, { on := 6, ground := Ground.phase }, { on := 7, ground := Ground.phase }, { on := 8, ground := Ground.phase }, { on := 9, ground := Ground.phase }, { on := 10, ground := Ground.phase }, { on := 11, ground := Ground.phase }, { on := 12, ground := Ground.phase }], guard := none }) (v := ?_) rfl (by kernel_rfl) (by kernel_rfl) (by kernel_rfl) (fun _ _ _ h => h) (Or.inl ⟨by rfl, ?_⟩) (by assumption) ?_
      rotate_left
      · intro w hSw; (try dsimp only at hSw); go_simp; (try with_reducible rfl)
      try simp only [Act.put, List.setIfInBounds_toArray, List.set_cons_zero, List.set_cons_succ]
      refine wpAnyH_ready (rs := [14]) (by kernel_rfl) (by simp) ?_
      refine AllReadyH.cons (o := { dst := none, op := Op.store 24 (Operand.tmp 59) (Operand.tmp 58), type := 0, pos := _, after := #[{ on := 13, ground := Ground.data }, { on := 12, ground := Ground.data }, { on := 12, ground := Ground.chain }, { on := 0, ground := Ground.phase }, { on := 1, ground := Ground.phase }, { on := 2, ground := Ground.phase }, { on := 3, ground := Ground.phase }, { on := 4, ground := Ground.phase }, { on := 5, ground := Ground.phase }, { on := 6, ground := Ground.phase }, { on := 7, ground := Ground.phase }, { on := 8, ground := Ground.phase }, { on := 9, ground := Ground.phase }, { on := 10, ground := Ground.phase }, { on := 11, ground := Ground.phase }, { on := 12, ground := Ground.phase }], guard := none }) rfl (fun K hK => ?_) AllReadyH.nil
      go_simp
      refine hK.out _ _ ?_ (fun hHeld => ?_)
      · (first | exact HS.out _ C8.out | exact HS.out _ (C8.out.belowB (below_drewN (Below.refl _ _) 1)) | exact HS.out _ (C8.out.belowB (below_new _ _)) | exact HS.out _ ((C8.out.belowB (below_drewN (Below.refl _ _) 1)).belowB (below_new _ _)) | exact HS.out _ C9.out | exact HS.out _ (C9.out.setSame _))
      clear hK K
      try simp only [Act.put, List.setIfInBounds_toArray, List.set_cons_zero, List.set_cons_succ]
      refine wpAnyH_done (by kernel_rfl) ?_ _
      have T10 := Lib.hid (T9.out.put 0 (.slice A9 (y + 1) k9))
      have C10 := Lib.hid (C9.out.setSame (i := 0) (.slice A9 (y + 1) k9))
      have O11 := Lib.hid ((Chg.set u9 g 0 (.slice A9 (y + 1) k9)).own O10.out (fun g' e hk => own_other O10.out T9.out (by decide) (by rw [e, hk])))
      clear k18 k18b k18c f18c
      generalize u9.setCell ⟨g, 0, none⟩ (.slice A9 (y + 1) k9) = w10 at T10 C10 O11 ⊢
      go_wp2_with fail
      go_roundw
      case rel => exact ⟨y + 1, A9, k9, by omega, by go_num, C10.out, T10.out, O11.out⟩
      case measure => simp [intOf]; omega
end Go.Proofs.YtaajnmggbhnndaaGreatDoor
