/- filigreeref25.told: the literals that are told. -/
import Derived.Test.YtaajnmggbhnndaaGreatDoorZR25N
import Derived.Test.YtaajnmggbhnndaaGreatDoorZMapG
namespace Go.Proofs.YtaajnmggbhnndaaGreatDoor
open Go.RowKit
set_option linter.unusedVariables false
set_option linter.unusedSimpArgs false
/-- the literals that are told -/
def AG.tld (G : AG) (i : Nat) : List Int := G.ou ++ (G.fl.map fun f => f.1).take i
theorem AG.tld_len (G : AG) {i : Nat} (h : i ≤ G.fl.length) : (G.tld i).length = G.ou.length + i := by unfold AG.tld; rw [List.length_append, List.length_take, List.length_map]; omega
theorem AG.tld_next (G : AG) {i : Nat} (h : i < G.fl.length) : G.tld (i + 1) = G.tld i ++ [(G.fl[i]).1] := by
  unfold AG.tld
  rw [List.take_succ_eq_append_getElem (by rw [List.length_map]; exact h), List.getElem_map, List.append_assoc]
set_option maxRecDepth 100000 in
set_option maxHeartbeats 1000000 in
theorem rtold25_any (G : AG) (w : World) (hin : G.In w) (hf : G.fit) :
    Calls Tryz.prog 39 #[.agg #[.int .i64 G.I, .slice G.AF G.fl.length G.cF, .slice G.AA G.an.length G.cA, .slice G.AO G.ou.length G.cO]] w fun r w' => ∃ A c, r = .returned (.slice A (G.tld G.fl.length).length c) ∧ Below w.heap.size w w' ∧ w'.ownsRow w.heap.size 3 1 (.slice A (G.tld G.fl.length).length c) (G.tld G.fl.length).length (ints (G.tld G.fl.length)) := by
  have HIN := Lib.hid hin
  rw [G.tld_len (Nat.le_refl _)]
  have HF := Lib.hid hf
  have Q0 := Lib.hid (below_new w (.cells #[.int .i64 G.I, .slice G.AF G.fl.length G.cF, .slice G.AA G.an.length G.cA, .slice G.AO G.ou.length G.cO] 26))
  have X0 := Lib.hid (Blk.made w 26 #[.int .i64 G.I, .slice G.AF G.fl.length G.cF, .slice G.AA G.an.length G.cA, .slice G.AO G.ou.length G.cO])
  have IN0 := Lib.hid (hin.later (below_new w (.cells #[.int .i64 G.I, .slice G.AF G.fl.length G.cF, .slice G.AA G.an.length G.cA, .slice G.AO G.ou.length G.cO] 26)))
  have k1 := X0.out.cell 1
  have k3 := X0.out.cell 3
  have ho := hf.o
  have hfl := hf.f
  obtain ⟨h, hh⟩ : ∃ h, G.fl.length = h := ⟨_, rfl⟩
  obtain ⟨no, hno⟩ : ∃ no, G.ou.length = no := ⟨_, rfl⟩
  obtain ⟨AF, hAF⟩ : ∃ a, G.AF = a := ⟨_, rfl⟩
  have HAF := Lib.hid hAF
  have HH := Lib.hid hh
  have HNO := Lib.hid hno
  rw [hh] at hfl
  rw [hno] at ho
  have L0 := Lib.hid (show G.tld 0 = G.ou by unfold AG.tld; rw [List.take_zero, List.append_nil])
  have RO := Lib.hid IN0.out.ou
  have hz := Q0.out.size
  rw [hh, hno, hAF] at Q0 X0 IN0 k1 k3 RO hz ⊢
  clear hin hf hh hno hAF
  go_enter Tryz.func39, Tryz.ntmps39
  have O1 := Lib.hid (show ((w.alloc (.cells #[.int .i64 G.I, .slice AF h G.cF, .slice G.AA G.an.length G.cA, .slice G.AO no G.cO] 26)).alloc (.cells #[] 3)).ownsRow (w.heap.size + 1) 3 1 (.slice (some ⟨w.heap.size + 1, 0, none⟩) 0 0) 0 (ints []) from by
    have hm := World.ownsRow_made (base := w.heap.size + 1) (e := 3) (size := 1) (w.alloc (.cells #[.int .i64 G.I, .slice AF h G.cF, .slice G.AA G.an.length G.cA, .slice G.AO no G.cO] 26)) #[] 0 (by simp) (by unfold maxLen; omega) (by simp)
    rw [show (w.alloc (.cells #[.int .i64 G.I, .slice AF h G.cF, .slice G.AA G.an.length G.cA, .slice G.AO no G.cO] 26)).heap.size = w.heap.size + 1 by simp] at hm
    exact hm)
  have RO1 := Lib.hid (RO.out.later (below_new _ (.cells #[] 3)))
  go_wp2_with (at_builtin; refine wpList_app_ints rfl (.tmp 5) (.tmp 7) rfl (w.heap.size + 1) (some ⟨w.heap.size + 1, 0, none⟩) 0 0 [] rfl O1.out G.AO no G.cO G.ou rfl RO1.out (by omega) (by first | (simp; done) | (simp; omega)) ?_)
  intro A1 c1 w1 hown1 hg1
  try simp only [Nat.zero_add, List.nil_append] at hown1
  rw [← L0.out] at hown1
  have hgr : Below (w.heap.size + 1) (w.alloc (.cells #[.int .i64 G.I, .slice AF h G.cF, .slice G.AA G.an.length G.cA, .slice G.AO no G.cO] 26)) w1 := ((Below.refl _ _).alloc (by simp) (.cells #[] 3)).grown hg1 (by first | (simp; done) | (simp; omega)) (fun j hj => own_base O1.out hj)
  have Q1 := Lib.hid (Q0.out.trans (hgr.mono (by omega)))
  have X1 := Lib.hid (show Blk w1 w.heap.size 26 #[.int .i64 G.I, .slice AF h G.cF, .slice G.AA G.an.length G.cA, .slice G.AO no G.cO] from (hgr.block _ (by omega)).trans X0.out)
  have OO := Lib.hid hown1
  have S1 := Lib.hid (show w.heap.size + 1 ≤ w1.heap.size from Nat.le_trans (by simp) hgr.size)
  clear hown1 hg1 hgr k1 k3 hz
  go_wp2_with fail
  go_loopw [3, 4] (fun v3 v4 wx => ∃ i : Nat, ∃ A c, i ≤ h ∧ v4 = .int .i64 (i : Int) ∧ v3 = .slice A (no + i) c ∧ wx.ownsRow (w.heap.size + 1) 3 1 (.slice A (no + i) c) (no + i) (ints (G.tld i)) ∧ Below w.heap.size w wx ∧ Blk wx w.heap.size 26 #[.int .i64 G.I, .slice AF h G.cF, .slice G.AA G.an.length G.cA, .slice G.AO no G.cO] ∧ w.heap.size + 1 ≤ wx.heap.size) (fun v3 v4 _ => h - (intOf v4).toNat)
  case atStart => exact ⟨0, A1, c1, by omega, rfl, rfl, OO.out, Q1.out, X1.out, S1.out⟩
  case round =>
    clear OO Q1 X1 S1 O1 RO1
    obtain ⟨i, A, c, hi, rfl, rfl, ho2, hb2, hx2, hs2⟩ := hrel
    have O2 := Lib.hid ho2
    have Q2 := Lib.hid hb2
    have X2 := Lib.hid hx2
    have k1 := hx2.cell 1
    clear ho2 hb2 hx2
    by_cases hih : i < h
    case neg =>
      obtain rfl : i = h := by omega
      have hlt : ¬ (i : Int) < (i : Int) := by omega
      go_wp2_with fail
      go_ret
      exact ⟨A, c, rfl, Q2.out, own_base_le O2.out (by omega)⟩
    have hlt : (i : Int) < (h : Int) := by omega
    have hia : i < G.fl.length := by rw [HH.out]; exact hih
    obtain ⟨g1, g2⟩ := fc_get G.fl i hia
    obtain ⟨pa, hPA, hpb, e0, e1⟩ := (HIN.out.later Q2.out).fl.two g1 g2
    have HNX := Lib.hid (G.tld_next hia)
    obtain ⟨x, hx⟩ : ∃ x, (G.fl[i]).1 = x := ⟨_, rfl⟩
    rw [hx] at e0 HNX
    rw [HAF.out] at hPA
    subst hPA
    clear hx g1 g2
    go_wp2_with (at_builtin; refine wpList_app_int rfl (.tmp 16) (.tmp 23) rfl (w.heap.size + 1) A (no + i) c (G.tld i) rfl O2.out x rfl (by omega) hs2 ?_)
    intro A3 c3 w3 hown3 hg3
    rw [← HNX.out] at hown3
    have hgr := (below_new wr (.cells #[.int .i64 x] 3))
    have hgr2 : Below (w.heap.size + 1) wr w3 := (hgr.mono hs2).grown hg3 (by first | (simp; done) | (simp; omega)) (fun j hj => own_base O2.out hj)
    have O3 := Lib.hid (show w3.ownsRow (w.heap.size + 1) 3 1 (.slice A3 (no + (i + 1)) c3) (no + (i + 1)) (ints (G.tld (i + 1))) from hown3)
    have Q3 := Lib.hid (Q2.out.trans (hgr2.mono (by omega)))
    have X3 := Lib.hid ((hgr2.block _ (by omega)).trans X2.out)
    have S3 := Lib.hid (Nat.le_trans hs2 hgr2.size)
    clear hown3 hg3 hgr hgr2
    go_wp2_with fail
    go_roundw
    case rel => exact ⟨i + 1, A3, c3, by omega, by go_num, rfl, O3.out, Q3.out, X3.out, S3.out⟩
    case measure => simp [intOf]; omega
end Go.Proofs.YtaajnmggbhnndaaGreatDoor
