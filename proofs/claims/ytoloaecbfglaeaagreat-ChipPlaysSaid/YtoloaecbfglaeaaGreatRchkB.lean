/- Walks of filigreeref31: pads, Check. -/
import Derived.Outline
import Derived.Test.YtoloaecbfglaeaaGreatRchk
import Derived.Deep.RegionHeld3
import Derived.Deep.RegionWith
import Derived.IntWalk
namespace Go.Proofs.YtoloaecbfglaeaaGreat
open Go.RowKit
set_option linter.unusedVariables false
set_option linter.unusedSimpArgs false

set_option maxRecDepth 100000 in
set_option maxHeartbeats 1000000 in
theorem rpads31 (C : Cfg) (w : World) (hin : C.In w) (hf : C.few) :
    Calls Tryz.prog 50 #[.agg #[.int .i64 C.W, .int .i64 C.H, .int .i64 C.T, .slice C.AT C.tiles.length C.cT, .slice C.AO C.on.length C.cO, .slice C.AI C.ins.length C.cI, .slice C.AU C.outs.length C.cU]] w (RowOut (C.ins ++ C.outs) w) := by
  have hf1 := hf.2.2.1
  have hf2 := hf.2.2.2
  obtain ⟨R, hR⟩ : ∃ R, RowOut (C.ins ++ C.outs) w = R := ⟨_, rfl⟩
  rw [hR]
  have HR := Lib.hid hR
  have HI := Lib.hid hin
  have Q0 := Lib.hid (below_new w (.cells #[.int .i64 C.W, .int .i64 C.H, .int .i64 C.T, .slice C.AT C.tiles.length C.cT, .slice C.AO C.on.length C.cO, .slice C.AI C.ins.length C.cI, .slice C.AU C.outs.length C.cU] 28))
  have B0 := Lib.hid (Box7.new w C 28)
  have o0 : ((w.alloc (.cells #[.int .i64 C.W, .int .i64 C.H, .int .i64 C.T, .slice C.AT C.tiles.length C.cT, .slice C.AO C.on.length C.cO, .slice C.AI C.ins.length C.cI, .slice C.AU C.outs.length C.cU] 28)).alloc (.cells #[] 3)).ownsRow (w.heap.size + 1) 3 1 (.slice (some ⟨w.heap.size + 1, 0, none⟩) 0 0) 0 (ints []) := by
    have h := World.ownsRow_made (base := w.heap.size + 1) (e := 3) (size := 1) (w.alloc (.cells #[.int .i64 C.W, .int .i64 C.H, .int .i64 C.T, .slice C.AT C.tiles.length C.cT, .slice C.AO C.on.length C.cO, .slice C.AI C.ins.length C.cI, .slice C.AU C.outs.length C.cU] 28)) #[] 0 (by simp) (by unfold maxLen; omega) (by simp)
    rw [show (w.alloc (.cells #[.int .i64 C.W, .int .i64 C.H, .int .i64 C.T, .slice C.AT C.tiles.length C.cT, .slice C.AO C.on.length C.cO, .slice C.AI C.ins.length C.cI, .slice C.AU C.outs.length C.cU] 28)).heap.size = w.heap.size + 1 by simp] at h
    exact h
  have O0 := Lib.hid o0
  clear o0
  clear hR hin hf
  go_enter Tryz.func50, Tryz.ntmps50
  go_wp2_with (at_builtin; refine wpList_app_ints rfl (.tmp 4) (.tmp 6) rfl (w.heap.size + 1) (some ⟨w.heap.size + 1, 0, none⟩) 0 0 [] rfl O0.out C.AI C.ins.length C.cI C.ins rfl (HI.out.ins.later (below_then Q0.out (below_new _ _))) (by omega) (by first | (simp; done) | (simp; omega)) ?_)
  intro A1 c1 w1 hown1 hg1
  try simp only [Nat.zero_add, List.nil_append] at hown1
  have hgr : Below (w.heap.size + 1) (w.alloc (.cells #[.int .i64 C.W, .int .i64 C.H, .int .i64 C.T, .slice C.AT C.tiles.length C.cT, .slice C.AO C.on.length C.cO, .slice C.AI C.ins.length C.cI, .slice C.AU C.outs.length C.cU] 28)) w1 := ((Below.refl _ _).alloc (by simp) (.cells #[] 3)).grown hg1 (by first | (simp; done) | (simp; omega)) (fun j hj => own_base O0.out hj)
  have Q1 := Lib.hid (Q0.out.trans (hgr.mono (by omega)))
  have B1 : Hid (Box7 w1 w.heap.size C) := Lib.hid (box7_low B0.out hgr (by omega))
  have hs1 : w.heap.size + 1 ≤ w1.heap.size := B1.out.lt
  have O1 := Lib.hid hown1
  obtain ⟨z1, k10, k11, k12, k13, k14, k15, k16⟩ := B1.out
  clear hown1 hg1 hgr
  go_wp2_with (at_builtin; refine wpList_app_ints rfl (.tmp 8) (.tmp 10) rfl (w.heap.size + 1) A1 C.ins.length c1 C.ins rfl O1.out C.AU C.outs.length C.cU C.outs rfl (HI.out.outs.later Q1.out) (by omega) hs1 ?_)
  intro A2 c2 w2 hown2 hg2
  have Q2 := Lib.hid (Q1.out.grown hg2 (by omega) (fun j hj => by have := own_base O1.out hj; omega))
  have O2 := Lib.hid hown2
  clear hown2 hg2
  go_wp2_with fail
  rw [← HR.out]
  exact row_mk (by simp) (own_low O2.out (by omega)) Q2.out

theorem any_take {l : List TL} {k : Nat} (h : (l.take k).any oddB = false) (hk : k < l.length) (ho : oddB (l[k]!) = false) : (l.take (k + 1)).any oddB = false := by
  rw [List.take_succ_eq_append_getElem hk, List.any_append, h]
  rw [getElem!_pos l k hk] at ho
  simp [ho]
theorem any_at {l : List TL} {k : Nat} (hk : k < l.length) (ho : oddB (l[k]!) = true) : l.any oddB = true := by
  rw [getElem!_pos l k hk] at ho
  exact List.any_eq_true.2 ⟨l[k], List.getElem_mem hk, ho⟩
def RCH (C : Cfg) (w : World) (v : Int) : Prop :=
  Calls Tryz.prog 20 #[.agg #[.int .i64 C.W, .int .i64 C.H, .int .i64 C.T, .slice C.AT C.tiles.length C.cT, .slice C.AO C.on.length C.cO, .slice C.AI C.ins.length C.cI, .slice C.AU C.outs.length C.cU]] w fun e w' => e = .returned (.int .i64 v) ∧ Below w.heap.size w w'

set_option maxRecDepth 100000 in
set_option maxHeartbeats 1000000 in
theorem rcheck31_no (C : Cfg) (w : World) (h : ¬ okA C.W C.H C.T) : RCH C w 1 := by
  unfold RCH
  have Q0 := below_new w (.cells #[.int .i64 C.W, .int .i64 C.H, .int .i64 C.T, .slice C.AT C.tiles.length C.cT, .slice C.AO C.on.length C.cO, .slice C.AI C.ins.length C.cI, .slice C.AU C.outs.length C.cU] 28)
  go_enter Tryz.func20, Tryz.ntmps20
  go_wp2_with fail
  refine (rcheck_no _ _ _ _ h).mono ?_
  rintro e w1 ⟨rfl, hb1⟩
  have Q1 := below_then Q0 hb1
  clear hb1
  go_wp2_with fail
  go_ret
  exact ⟨rfl, Q1⟩

set_option maxRecDepth 100000 in
set_option maxHeartbeats 8000000 in
theorem rcheck31_yes (C : Cfg) (w : World) (hin : C.In w) (hf : C.few) (h : okA C.W C.H C.T) : RCH C w C.E := by
  have hE0 : padsOk (2 * C.W + 2 * C.H) (C.ins ++ C.outs) → (C.tiles.length : Int) = C.W * C.H → C.on.length = (edgesL C.W C.H C.T).length → C.tiles.any oddB = false → C.E = 0 := fun a b c d => if_pos ⟨h, a, b, c, d⟩
  have hE1 : ¬ (padsOk (2 * C.W + 2 * C.H) (C.ins ++ C.outs) ∧ (C.tiles.length : Int) = C.W * C.H ∧ C.on.length = (edgesL C.W C.H C.T).length ∧ C.tiles.any oddB = false) → C.E = 1 := fun hx => if_neg fun hy => hx hy.2
  obtain ⟨EE, hEE⟩ : ∃ v, C.E = v := ⟨_, rfl⟩
  rw [hEE] at hE0 hE1
  rw [hEE]
  clear hEE
  have HE0 := Lib.hid hE0
  have HE1 := Lib.hid hE1
  have hh := h
  unfold okA at hh
  have m1 := mul_bd (a := C.W) (b := C.H) (A := 16) (B := 16) (by omega) (by omega) (by omega) (by omega)
  have HI := Lib.hid hin
  have HF := Lib.hid hf
  have HH := Lib.hid h
  have f1 := hf.1
  have f2 := hf.2.2.1
  have f3 := hf.2.2.2
  have hWH : IntKind.i64.wrap (C.W * C.H) = C.W * C.H := IntWalk.i64_in _ (by omega)
  have HWH := Lib.hid hWH
  have Q0 := Lib.hid (below_new w (.cells #[.int .i64 C.W, .int .i64 C.H, .int .i64 C.T, .slice C.AT C.tiles.length C.cT, .slice C.AO C.on.length C.cO, .slice C.AI C.ins.length C.cI, .slice C.AU C.outs.length C.cU] 28))
  have B0 := Lib.hid (Box7.new w C 28)
  unfold RCH
  clear hE0 hE1 hin hf h hWH
  go_enter Tryz.func20, Tryz.ntmps20
  go_wp2_with fail
  refine (rcheck_yes _ _ _ _ HH.out).mono ?_
  rintro e w1 ⟨rfl, hb1⟩
  have Q1 := Lib.hid (below_then Q0.out hb1)
  have B1 := Lib.hid (Box7.below B0.out hb1)
  clear hb1
  obtain ⟨n, hn⟩ : ∃ n, C.tiles.length = n := ⟨_, rfl⟩
  have HN := Lib.hid hn
  obtain ⟨z1, k10, k11, k12, k13, k14, k15, k16⟩ := B1.out
  rw [hn] at k13 f1
  clear hn
  go_wp2_with fail
  go_loop [4] (fun i => ∃ k : Nat, k ≤ n ∧ i = .int .i64 (k : Int) ∧ Hid ((C.tiles.take k).any oddB = false)) (fun i => n - (intOf i).toNat)
  case atStart => exact ⟨0, by omega, rfl, Lib.hid (by simp)⟩
  case round =>
    obtain ⟨k, hk, rfl, HA⟩ := hrel
    by_cases hlt : k < n
    · have hkl : k < C.tiles.length := by rw [HN.out]; exact hlt
      obtain ⟨a, ha, hab, t0, t1, t2⟩ := (HI.out.tiles.later Q1.out).tile (k := k) hkl
      rw [ha] at k13
      have HAA := Lib.hid ha
      have hno : oddB (C.tiles[k]!) = true → EE = 1 := fun ho => HE1.out (fun hx => by have := any_at hkl ho; rw [hx.2.2.2] at this; cases this)
      have hyes : oddB (C.tiles[k]!) = false → (C.tiles.take (k + 1)).any oddB = false := any_take HA.out hkl
      have HNO := Lib.hid hno
      have HYES := Lib.hid hyes
      clear ha hno hyes
      generalize C.tiles[k]! = tl at t0 t1 t2 HNO HYES
      obtain ⟨tb, ff, ini⟩ := tl
      simp only at t0 t1 t2
      by_cases h0 : tb < 0
      · have he : EE = 1 := HNO.out (by simp [oddB, h0])
        have HEE := Lib.hid he
        clear he
        go_wp2_with fail
        go_ret
        exact ⟨by rw [HEE.out]; rfl, Q1.out⟩
      · have h0' : decide (tb < 0) = false := decide_eq_false h0
        by_cases h1 : 65535 < tb
        · have he : EE = 1 := HNO.out (by simp [oddB, h1])
          have HEE := Lib.hid he
          clear he
          go_wp2_with fail
          go_ret
          exact ⟨by rw [HEE.out]; rfl, Q1.out⟩
        · have h1' : decide (65535 < tb) = false := decide_eq_false h1
          cases ini with
          | false =>
            have hx := HYES.out (by simp [oddB, h0, h1])
            have HX := Lib.hid hx
            clear hx
            go_wp2_with fail
            go_round
            case rel => exact ⟨k + 1, by omega, by go_num, HX⟩
            case measure => simp [intOf]; omega
          | true =>
            cases ff with
            | true =>
              have hx := HYES.out (by simp [oddB, h0, h1])
              have HX := Lib.hid hx
              clear hx
              go_wp2_with fail
              go_round
              case rel => exact ⟨k + 1, by omega, by go_num, HX⟩
              case measure => simp [intOf]; omega
            | false =>
              have he : EE = 1 := HNO.out (by simp [oddB])
              have HEE := Lib.hid he
              clear he
              go_wp2_with fail
              go_ret
              exact ⟨by rw [HEE.out]; rfl, Q1.out⟩
    · obtain rfl : k = n := by omega
      have hall : C.tiles.any oddB = false := by
        have := HA.out
        rw [List.take_of_length_le (by rw [HN.out]; exact Nat.le_refl _)] at this
        exact this
      have HALL := Lib.hid hall
      have hWH := HWH.out
      clear hall
      rw [← HN.out] at k13
      have hlt2 : decide (k < C.tiles.length) = false := decide_eq_false (by rw [HN.out]; omega)
      have Q3 := Q1
      have B3 := B1
      by_cases c1 : (C.tiles.length : Int) = C.W * C.H
      · have hd1 : ((C.tiles.length : Int) != C.W * C.H) = false := by rw [c1]; simp
        have C1 := Lib.hid c1
        clear c1
        have hel := rawL_len HH.out
        have hel2 : (edgesL C.W C.H C.T).length ≤ 6000000 := by unfold edgesL; rw [sortP_length]; exact hel
        clear hel
        by_cases c2 : C.on.length = (edgesL C.W C.H C.T).length
        · have hd2 : ((C.on.length : Int) != ((edgesL C.W C.H C.T).length : Int)) = false := by rw [c2]; simp
          have C2 := Lib.hid c2
          obtain ⟨b, hb⟩ : ∃ b, decide (padsOk (2 * C.W + 2 * C.H) (C.ins ++ C.outs)) = b := ⟨_, rfl⟩
          have HAL := Lib.hid hb
          clear c2 hb
          go_wp2_with fail
          go_region_held3 (fun w' => w'.cell? ⟨w.heap.size, 0, none⟩ = some (.int .i64 C.W) ∧ w'.cell? ⟨w.heap.size, 1, none⟩ = some (.int .i64 C.H) ∧ w'.cell? ⟨w.heap.size, 2, none⟩ = some (.int .i64 C.T) ∧ w'.cell? ⟨w.heap.size, 3, none⟩ = some (.slice C.AT C.tiles.length C.cT) ∧ w'.cell? ⟨w.heap.size, 4, none⟩ = some (.slice C.AO C.on.length C.cO) ∧ w'.cell? ⟨w.heap.size, 5, none⟩ = some (.slice C.AI C.ins.length C.cI) ∧ w'.cell? ⟨w.heap.size, 6, none⟩ = some (.slice C.AU C.outs.length C.cU)) (go_keep) ((first | (go_at_call 48; (with_reducible refine (rswitches_yes _ _ _ _ HH.out).mono ?_); rintro e w4 ⟨rfl, hb⟩; have Q4 := Lib.hid (Q3.out.trans ((below_drew1 hb).mono Q3.out.size)); have B4 := Lib.hid (box7_low B3.out (below_drew1 hb) B3.out.lt); obtain ⟨q4z, q40, q41, q42, q43, q44, q45, q46⟩ := B4.out; clear hb) | (go_at_call 50; (with_reducible refine (rpads31 C _ ?_ HF.out).mono ?_); (exact HI.out.later Q4.out); rintro e w5 ⟨A5, c5, rfl, ho5, hb⟩; rw [List.length_append] at ho5; have Q5 := Lib.hid (Q4.out.trans ((hb).mono Q4.out.size)); have B5 := Lib.hid (box7_low B4.out (hb) B4.out.lt); obtain ⟨q5z, q50, q51, q52, q53, q54, q55, q56⟩ := B5.out; have O5 := Lib.hid ho5; clear hb ho5) | (go_at_call 51; (with_reducible refine (rpads_yes _ _ _ _ HH.out).mono ?_); rintro e w6 ⟨rfl, hb⟩; have Q6 := Lib.hid (Q5.out.trans ((hb).mono Q5.out.size)); have B6 := Lib.hid (box7_low B5.out (hb) B5.out.lt); obtain ⟨q6z, q60, q61, q62, q63, q64, q65, q66⟩ := B6.out; have O6 := Lib.hid (own_keep O5.out hb); clear hb) | (go_at_call 49; (with_reducible refine (alone_any _ _ _ _ (C.ins ++ C.outs) _ b ?_ ?_ ?_).mono ?_); (exact HAL.out); (exact Rd.of_own O6.out); (omega); rintro e w7 ⟨rfl, hb⟩; have Q7 := Lib.hid (Q6.out.trans ((hb).mono Q6.out.size)); have B7 := Lib.hid (box7_low B6.out (hb) B6.out.lt); obtain ⟨q7z, q70, q71, q72, q73, q74, q75, q76⟩ := B7.out; clear hb)))
          cases b with
          | true =>
            have he : EE = 0 := HE0.out (of_decide_eq_true HAL.out) C1.out C2.out HALL.out
            have HEE := Lib.hid he
            clear he
            go_wp2_with fail
            go_ret
            exact ⟨by rw [HEE.out]; rfl, Q7.out⟩
          | false =>
            have he : EE = 1 := HE1.out (fun hx => of_decide_eq_false HAL.out hx.1)
            have HEE := Lib.hid he
            clear he
            go_wp2_with fail
            go_ret
            exact ⟨by rw [HEE.out]; rfl, Q7.out⟩
        · have hd2 : ((C.on.length : Int) != ((edgesL C.W C.H C.T).length : Int)) = true := by simp; omega
          have he : EE = 1 := HE1.out (fun hx => c2 hx.2.2.1)
          have HEE := Lib.hid he
          clear he c2
          go_wp2_with fail
          refine wp_region_held_drew (S := (fun w' => w'.cell? ⟨w.heap.size, 0, none⟩ = some (.int .i64 C.W) ∧ w'.cell? ⟨w.heap.size, 1, none⟩ = some (.int .i64 C.H) ∧ w'.cell? ⟨w.heap.size, 2, none⟩ = some (.int .i64 C.T) ∧ w'.cell? ⟨w.heap.size, 3, none⟩ = some (.slice C.AT C.tiles.length C.cT) ∧ w'.cell? ⟨w.heap.size, 4, none⟩ = some (.slice C.AO C.on.length C.cO) ∧ w'.cell? ⟨w.heap.size, 5, none⟩ = some (.slice C.AI C.ins.length C.cI) ∧ w'.cell? ⟨w.heap.size, 6, none⟩ = some (.slice C.AU C.outs.length C.cU))) (by kernel_rfl) ?_ (fun hHeld => ?_)
          · go_keep
          refine wpAnyH_take (i := 0) (oi := { dst := some 51, op := Op.fieldAddr 28 (Operand.tmp 1) 1, type := 0, pos := "ref.go:50", after := #[], guard := none }) (v := ?_) rfl (by kernel_rfl) (by kernel_rfl) (by kernel_rfl) (fun _ _ _ h => h) (Or.inl ⟨by rfl, ?_⟩) (by assumption) ?_
          rotate_left
          · intro w hSw; (try dsimp only at hSw); go_simp; (try with_reducible rfl)
          try simp only [Act.put, List.setIfInBounds_toArray, List.set_cons_zero, List.set_cons_succ]
          refine wpAnyH_take (i := 1) (oi := { dst := some 52, op := Op.load 24 (Operand.tmp 51), type := 24, pos := "ref.go:50", after := #[{ on := 0, ground := Ground.data }], guard := none }) (v := ?_) rfl (by kernel_rfl) (by kernel_rfl) (by kernel_rfl) (fun _ _ _ h => h) (Or.inl ⟨by rfl, ?_⟩) (by assumption) ?_
          rotate_left
          · intro w hSw; (try dsimp only at hSw); go_simp; (try with_reducible rfl)
          try simp only [Act.put, List.setIfInBounds_toArray, List.set_cons_zero, List.set_cons_succ]
          refine wpAnyH_take (i := 2) (oi := { dst := some 53, op := Op.call { callee := Callee.builtin Builtin.len, args := #[Operand.tmp 52], argTypes := #[24] }, type := 3, pos := "ref.go:50", after := #[{ on := 1, ground := Ground.data }], guard := none }) (v := ?_) rfl (by kernel_rfl) (by kernel_rfl) (by kernel_rfl) (fun _ _ _ h => h) (Or.inl ⟨by rfl, ?_⟩) (by assumption) ?_
          rotate_left
          · intro w hSw; (try dsimp only at hSw); go_simp; (try with_reducible rfl)
          try simp only [Act.put, List.setIfInBounds_toArray, List.set_cons_zero, List.set_cons_succ]
          refine wpAnyH_take (i := 3) (oi := { dst := some 54, op := Op.fieldAddr 28 (Operand.tmp 1) 0, type := 0, pos := "ref.go:50", after := #[], guard := none }) (v := ?_) rfl (by kernel_rfl) (by kernel_rfl) (by kernel_rfl) (fun _ _ _ h => h) (Or.inl ⟨by rfl, ?_⟩) (by assumption) ?_
          rotate_left
          · intro w hSw; (try dsimp only at hSw); go_simp; (try with_reducible rfl)
          try simp only [Act.put, List.setIfInBounds_toArray, List.set_cons_zero, List.set_cons_succ]
          refine wpAnyH_take (i := 4) (oi := { dst := some 55, op := Op.fieldAddr 23 (Operand.tmp 54) 0, type := 0, pos := "ref.go:50", after := #[{ on := 3, ground := Ground.data }], guard := none }) (v := ?_) rfl (by kernel_rfl) (by kernel_rfl) (by kernel_rfl) (fun _ _ _ h => h) (Or.inl ⟨by rfl, ?_⟩) (by assumption) ?_
          rotate_left
          · intro w hSw; (try dsimp only at hSw); go_simp; (try with_reducible rfl)
          try simp only [Act.put, List.setIfInBounds_toArray, List.set_cons_zero, List.set_cons_succ]
          refine wpAnyH_take (i := 5) (oi := { dst := some 56, op := Op.load 3 (Operand.tmp 55), type := 3, pos := "ref.go:50", after := #[{ on := 4, ground := Ground.data }], guard := none }) (v := ?_) rfl (by kernel_rfl) (by kernel_rfl) (by kernel_rfl) (fun _ _ _ h => h) (Or.inl ⟨by rfl, ?_⟩) (by assumption) ?_
          rotate_left
          · intro w hSw; (try dsimp only at hSw); go_simp; (try with_reducible rfl)
          try simp only [Act.put, List.setIfInBounds_toArray, List.set_cons_zero, List.set_cons_succ]
          refine wpAnyH_take (i := 6) (oi := { dst := some 57, op := Op.fieldAddr 28 (Operand.tmp 1) 0, type := 0, pos := "ref.go:50", after := #[], guard := none }) (v := ?_) rfl (by kernel_rfl) (by kernel_rfl) (by kernel_rfl) (fun _ _ _ h => h) (Or.inl ⟨by rfl, ?_⟩) (by assumption) ?_
          rotate_left
          · intro w hSw; (try dsimp only at hSw); go_simp; (try with_reducible rfl)
          try simp only [Act.put, List.setIfInBounds_toArray, List.set_cons_zero, List.set_cons_succ]
          refine wpAnyH_take (i := 7) (oi := { dst := some 58, op := Op.fieldAddr 23 (Operand.tmp 57) 1, type := 0, pos := "ref.go:50", after := #[{ on := 6, ground := Ground.data }], guard := none }) (v := ?_) rfl (by kernel_rfl) (by kernel_rfl) (by kernel_rfl) (fun _ _ _ h => h) (Or.inl ⟨by rfl, ?_⟩) (by assumption) ?_
          rotate_left
          · intro w hSw; (try dsimp only at hSw); go_simp; (try with_reducible rfl)
          try simp only [Act.put, List.setIfInBounds_toArray, List.set_cons_zero, List.set_cons_succ]
          refine wpAnyH_take (i := 8) (oi := { dst := some 59, op := Op.load 3 (Operand.tmp 58), type := 3, pos := "ref.go:50", after := #[{ on := 7, ground := Ground.data }], guard := none }) (v := ?_) rfl (by kernel_rfl) (by kernel_rfl) (by kernel_rfl) (fun _ _ _ h => h) (Or.inl ⟨by rfl, ?_⟩) (by assumption) ?_
          rotate_left
          · intro w hSw; (try dsimp only at hSw); go_simp; (try with_reducible rfl)
          try simp only [Act.put, List.setIfInBounds_toArray, List.set_cons_zero, List.set_cons_succ]
          refine wpAnyH_take (i := 9) (oi := { dst := some 60, op := Op.binOp BinOp.mul 3 (Operand.tmp 56) (Operand.tmp 59) 3, type := 3, pos := "ref.go:50", after := #[{ on := 5, ground := Ground.data }, { on := 8, ground := Ground.data }], guard := none }) (v := ?_) rfl (by kernel_rfl) (by kernel_rfl) (by kernel_rfl) (fun _ _ _ h => h) (Or.inl ⟨by rfl, ?_⟩) (by assumption) ?_
          rotate_left
          · intro w hSw; (try dsimp only at hSw); go_simp; (try with_reducible rfl)
          try simp only [Act.put, List.setIfInBounds_toArray, List.set_cons_zero, List.set_cons_succ]
          refine wpAnyH_take (i := 10) (oi := { dst := some 61, op := Op.binOp BinOp.neq 3 (Operand.tmp 53) (Operand.tmp 60) 3, type := 4, pos := "ref.go:50", after := #[{ on := 2, ground := Ground.data }, { on := 9, ground := Ground.data }], guard := none }) (v := ?_) rfl (by kernel_rfl) (by kernel_rfl) (by kernel_rfl) (fun _ _ _ h => h) (Or.inl ⟨by rfl, ?_⟩) (by assumption) ?_
          rotate_left
          · intro w hSw; (try dsimp only at hSw); go_simp; (try with_reducible rfl)
          try simp only [Act.put, List.setIfInBounds_toArray, List.set_cons_zero, List.set_cons_succ]
          refine wpAnyH_take (i := 11) (oi := { dst := some 62, op := Op.move (Operand.tmp 61), type := 4, pos := "ref.go:50", after := #[{ on := 10, ground := Ground.data }], guard := none }) (v := ?_) rfl (by kernel_rfl) (by kernel_rfl) (by kernel_rfl) (fun _ _ _ h => h) (Or.inl ⟨by rfl, ?_⟩) (by assumption) ?_
          rotate_left
          · intro w hSw; (try dsimp only at hSw); go_simp; (try with_reducible rfl)
          try simp only [Act.put, List.setIfInBounds_toArray, List.set_cons_zero, List.set_cons_succ]
          refine wpAnyH_take (i := 12) (oi := { dst := some 63, op := Op.fieldAddr 28 (Operand.tmp 1) 2, type := 0, pos := "ref.go:50", after := #[{ on := 11, ground := Ground.guard }], guard := some (11, false) }) (v := ?_) rfl (by kernel_rfl) (by kernel_rfl) (by kernel_rfl) (fun _ _ _ h => h) (Or.inl ⟨by rfl, ?_⟩) (by assumption) ?_
          rotate_left
          · intro w hSw; (try dsimp only at hSw); go_simp; (try with_reducible rfl)
          try simp only [Act.put, List.setIfInBounds_toArray, List.set_cons_zero, List.set_cons_succ]
          refine wpAnyH_take (i := 13) (oi := { dst := some 64, op := Op.load 25 (Operand.tmp 63), type := 25, pos := "ref.go:50", after := #[{ on := 12, ground := Ground.data }, { on := 11, ground := Ground.guard }], guard := some (11, false) }) (v := ?_) rfl (by kernel_rfl) (by kernel_rfl) (by kernel_rfl) (fun _ _ _ h => h) (Or.inl ⟨by rfl, ?_⟩) (by assumption) ?_
          rotate_left
          · intro w hSw; (try dsimp only at hSw); go_simp; (try with_reducible rfl)
          try simp only [Act.put, List.setIfInBounds_toArray, List.set_cons_zero, List.set_cons_succ]
          refine wpAnyH_take (i := 14) (oi := { dst := some 65, op := Op.call { callee := Callee.builtin Builtin.len, args := #[Operand.tmp 64], argTypes := #[25] }, type := 3, pos := "ref.go:50", after := #[{ on := 13, ground := Ground.data }, { on := 11, ground := Ground.guard }], guard := some (11, false) }) (v := ?_) rfl (by kernel_rfl) (by kernel_rfl) (by kernel_rfl) (fun _ _ _ h => h) (Or.inl ⟨by rfl, ?_⟩) (by assumption) ?_
          rotate_left
          · intro w hSw; (try dsimp only at hSw); go_simp; (try with_reducible rfl)
          try simp only [Act.put, List.setIfInBounds_toArray, List.set_cons_zero, List.set_cons_succ]
          refine wpAnyH_take (i := 15) (oi := { dst := some 66, op := Op.fieldAddr 28 (Operand.tmp 1) 0, type := 0, pos := "ref.go:50", after := #[{ on := 11, ground := Ground.guard }], guard := some (11, false) }) (v := ?_) rfl (by kernel_rfl) (by kernel_rfl) (by kernel_rfl) (fun _ _ _ h => h) (Or.inl ⟨by rfl, ?_⟩) (by assumption) ?_
          rotate_left
          · intro w hSw; (try dsimp only at hSw); go_simp; (try with_reducible rfl)
          try simp only [Act.put, List.setIfInBounds_toArray, List.set_cons_zero, List.set_cons_succ]
          refine wpAnyH_take (i := 16) (oi := { dst := some 67, op := Op.load 23 (Operand.tmp 66), type := 23, pos := "ref.go:50", after := #[{ on := 15, ground := Ground.data }, { on := 11, ground := Ground.guard }], guard := some (11, false) }) (v := ?_) rfl (by kernel_rfl) (by kernel_rfl) (by kernel_rfl) (fun _ _ _ h => h) (Or.inl ⟨by rfl, ?_⟩) (by assumption) ?_
          rotate_left
          · intro w hSw; (try dsimp only at hSw); go_simp; (try with_reducible rfl)
          try simp only [Act.put, List.setIfInBounds_toArray, List.set_cons_zero, List.set_cons_succ]
          refine wpAnyH_ready (rs := [17]) (by kernel_rfl) (by simp) ?_
          refine AllReadyH.cons (o := { dst := some 68, op := Op.call { callee := Callee.value (Operand.func 48), args := #[Operand.tmp 67], argTypes := #[23] }, type := 3, pos := "ref.go:50", after := #[{ on := 16, ground := Ground.data }, { on := 11, ground := Ground.chain }, { on := 11, ground := Ground.guard }], guard := some (11, false) }) rfl (fun K hK => ?_) AllReadyH.nil
          go_simp
          with_reducible refine (rswitches_yes _ _ _ _ HH.out).mono ?_
          rintro e w4 ⟨rfl, hb⟩
          have hb := below_drew1 hb
          have Q4 := Lib.hid (Q3.out.trans (hb.mono Q3.out.size))
          have B4 := Lib.hid (box7_low B3.out hb B3.out.lt)
          obtain ⟨q4z, q40, q41, q42, q43, q44, q45, q46⟩ := B4.out
          clear hb hHeld
          refine hK.out _ _ ?_ (fun hHeld => ?_)
          · go_keep
          clear hK K
          try simp only [Act.put, List.setIfInBounds_toArray, List.set_cons_zero, List.set_cons_succ]
          refine wpAnyH_take (i := 18) (oi := { dst := some 69, op := Op.binOp BinOp.neq 3 (Operand.tmp 65) (Operand.tmp 68) 3, type := 4, pos := "ref.go:50", after := #[{ on := 14, ground := Ground.data }, { on := 17, ground := Ground.data }, { on := 11, ground := Ground.guard }], guard := some (11, false) }) (v := ?_) rfl (by kernel_rfl) (by kernel_rfl) (by kernel_rfl) (fun _ _ _ h => h) (Or.inl ⟨by rfl, ?_⟩) (by assumption) ?_
          rotate_left
          · intro w hSw; (try dsimp only at hSw); go_simp; (try with_reducible rfl)
          try simp only [Act.put, List.setIfInBounds_toArray, List.set_cons_zero, List.set_cons_succ]
          refine wpAnyH_take (i := 19) (oi := { dst := some 70, op := Op.pick (Operand.tmp 62) (Operand.const (Value.bool true)) (Operand.tmp 69), type := 4, pos := "ref.go:50", after := #[{ on := 11, ground := Ground.data }, { on := 18, ground := Ground.data }], guard := none }) (v := ?_) rfl (by kernel_rfl) (by kernel_rfl) (by kernel_rfl) (fun _ _ _ h => h) (Or.inl ⟨by rfl, ?_⟩) (by assumption) ?_
          rotate_left
          · intro w hSw; (try dsimp only at hSw); go_simp; (try with_reducible rfl)
          try simp only [Act.put, List.setIfInBounds_toArray, List.set_cons_zero, List.set_cons_succ]
          refine wpAnyH_take (i := 20) (oi := { dst := some 71, op := Op.move (Operand.tmp 70), type := 4, pos := "ref.go:50", after := #[{ on := 19, ground := Ground.data }, { on := 17, ground := Ground.chain }], guard := none }) (v := ?_) rfl (by kernel_rfl) (by kernel_rfl) (by kernel_rfl) (fun _ _ _ h => h) (Or.inl ⟨by rfl, ?_⟩) (by assumption) ?_
          rotate_left
          · intro w hSw; (try dsimp only at hSw); go_simp; (try with_reducible rfl)
          try simp only [Act.put, List.setIfInBounds_toArray, List.set_cons_zero, List.set_cons_succ]
          refine wpAnyH_take (i := 21) (oi := { dst := some 72, op := Op.load 28 (Operand.tmp 1), type := 28, pos := "ref.go:50", after := #[{ on := 20, ground := Ground.guard }], guard := some (20, false) }) (v := undef) rfl (by kernel_rfl) (by kernel_rfl) (by kernel_rfl) (fun _ _ _ h => h) (Or.inr ⟨by rfl, rfl⟩) (by assumption) ?_
          try simp only [Act.put, List.setIfInBounds_toArray, List.set_cons_zero, List.set_cons_succ]
          refine wpAnyH_take (i := 22) (oi := { dst := some 73, op := Op.call { callee := Callee.value (Operand.func 50), args := #[Operand.tmp 72], argTypes := #[28] }, type := 26, pos := "ref.go:50", after := #[{ on := 21, ground := Ground.data }, { on := 20, ground := Ground.chain }, { on := 20, ground := Ground.guard }], guard := some (20, false) }) (v := undef) rfl (by kernel_rfl) (by kernel_rfl) (by kernel_rfl) (fun _ _ _ h => h) (Or.inr ⟨by rfl, rfl⟩) (by assumption) ?_
          try simp only [Act.put, List.setIfInBounds_toArray, List.set_cons_zero, List.set_cons_succ]
          refine wpAnyH_take (i := 23) (oi := { dst := some 74, op := Op.fieldAddr 28 (Operand.tmp 1) 0, type := 0, pos := "ref.go:50", after := #[{ on := 20, ground := Ground.guard }], guard := some (20, false) }) (v := undef) rfl (by kernel_rfl) (by kernel_rfl) (by kernel_rfl) (fun _ _ _ h => h) (Or.inr ⟨by rfl, rfl⟩) (by assumption) ?_
          try simp only [Act.put, List.setIfInBounds_toArray, List.set_cons_zero, List.set_cons_succ]
          refine wpAnyH_take (i := 24) (oi := { dst := some 75, op := Op.load 23 (Operand.tmp 74), type := 23, pos := "ref.go:50", after := #[{ on := 23, ground := Ground.data }, { on := 20, ground := Ground.guard }], guard := some (20, false) }) (v := undef) rfl (by kernel_rfl) (by kernel_rfl) (by kernel_rfl) (fun _ _ _ h => h) (Or.inr ⟨by rfl, rfl⟩) (by assumption) ?_
          try simp only [Act.put, List.setIfInBounds_toArray, List.set_cons_zero, List.set_cons_succ]
          refine wpAnyH_take (i := 25) (oi := { dst := some 76, op := Op.call { callee := Callee.value (Operand.func 51), args := #[Operand.tmp 75], argTypes := #[23] }, type := 3, pos := "ref.go:50", after := #[{ on := 24, ground := Ground.data }, { on := 22, ground := Ground.chain }, { on := 20, ground := Ground.guard }], guard := some (20, false) }) (v := undef) rfl (by kernel_rfl) (by kernel_rfl) (by kernel_rfl) (fun _ _ _ h => h) (Or.inr ⟨by rfl, rfl⟩) (by assumption) ?_
          try simp only [Act.put, List.setIfInBounds_toArray, List.set_cons_zero, List.set_cons_succ]
          refine wpAnyH_take (i := 26) (oi := { dst := some 77, op := Op.call { callee := Callee.value (Operand.func 49), args := #[Operand.tmp 73, Operand.tmp 76], argTypes := #[26, 3] }, type := 4, pos := "ref.go:50", after := #[{ on := 22, ground := Ground.data }, { on := 25, ground := Ground.data }, { on := 25, ground := Ground.chain }, { on := 20, ground := Ground.guard }], guard := some (20, false) }) (v := undef) rfl (by kernel_rfl) (by kernel_rfl) (by kernel_rfl) (fun _ _ _ h => h) (Or.inr ⟨by rfl, rfl⟩) (by assumption) ?_
          try simp only [Act.put, List.setIfInBounds_toArray, List.set_cons_zero, List.set_cons_succ]
          refine wpAnyH_take (i := 27) (oi := { dst := some 78, op := Op.unOp UnOp.not 4 (Operand.tmp 77), type := 4, pos := "ref.go:50", after := #[{ on := 26, ground := Ground.data }, { on := 20, ground := Ground.guard }], guard := some (20, false) }) (v := undef) rfl (by kernel_rfl) (by kernel_rfl) (by kernel_rfl) (fun _ _ _ h => h) (Or.inr ⟨by rfl, rfl⟩) (by assumption) ?_
          try simp only [Act.put, List.setIfInBounds_toArray, List.set_cons_zero, List.set_cons_succ]
          refine wpAnyH_take (i := 28) (oi := { dst := some 79, op := Op.pick (Operand.tmp 71) (Operand.const (Value.bool true)) (Operand.tmp 78), type := 4, pos := "ref.go:50", after := #[{ on := 20, ground := Ground.data }, { on := 27, ground := Ground.data }], guard := none }) (v := ?_) rfl (by kernel_rfl) (by kernel_rfl) (by kernel_rfl) (fun _ _ _ h => h) (Or.inl ⟨by rfl, ?_⟩) (by assumption) ?_
          rotate_left
          · intro w hSw; (try dsimp only at hSw); go_simp; (try with_reducible rfl)
          try simp only [Act.put, List.setIfInBounds_toArray, List.set_cons_zero, List.set_cons_succ]
          refine wpAnyH_done (by kernel_rfl) ?_ _
          go_wp2_with fail
          go_ret
          exact ⟨by rw [HEE.out]; rfl, Q4.out⟩
      · have hd1 : ((C.tiles.length : Int) != C.W * C.H) = true := by simpa using c1
        have he : EE = 1 := HE1.out (fun hx => c1 hx.2.1)
        have HEE := Lib.hid he
        clear he c1
        go_wp2_with fail
        go_quiet (fail)
        go_wp2_with fail
        go_ret
        exact ⟨by rw [HEE.out]; rfl, below_drewN Q1.out _⟩
theorem rcheck31_any (C : Cfg) (w : World) (hin : C.In w) (hf : C.few) : RCH C w C.E := by
  by_cases h : okA C.W C.H C.T
  · exact rcheck31_yes C w hin hf h
  · have : C.E = 1 := if_neg fun hx => h hx.1
    rw [this]
    exact rcheck31_no C w h
end Go.Proofs.YtoloaecbfglaeaaGreat
