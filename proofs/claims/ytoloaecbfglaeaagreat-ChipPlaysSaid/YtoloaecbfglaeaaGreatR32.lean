/- Walks of filigreeref32: the nodes of wires, which nodes are joined, who drives them. -/
import Derived.Test.YtoloaecbfglaeaaGreatShortP
import Derived.Test.YtoloaecbfglaeaaGreatRefE
import Derived.Deep.LoopGhost
import Derived.Deep.RegionHeld3
import Derived.BigQuiet
import Derived.Deep.QuietTactic
namespace Go.Proofs.YtoloaecbfglaeaaGreat
open Go.RowKit
set_option linter.unusedVariables false
set_option linter.unusedSimpArgs false

def RNODES (C : Cfg) (w : World) (R : Ending → World → Prop) : Prop :=
  Calls Tryz.prog 64 #[.agg #[.int .i64 C.W, .int .i64 C.H, .int .i64 C.T, .slice C.AT C.tiles.length C.cT, .slice C.AO C.on.length C.cO, .slice C.AI C.ins.length C.cI, .slice C.AU C.outs.length C.cU]] w R
def RNodesOut (C : Cfg) (w : World) (e : Ending) (w' : World) : Prop :=
  ∃ A c, e = .returned (.slice A (endsL C).length c) ∧ Below w.heap.size w w' ∧ w'.ownsRow w.heap.size 3 1 (.slice A (endsL C).length c) (endsL C).length (ints (endsL C))

set_option maxRecDepth 100000 in
set_option maxHeartbeats 8000000 in
theorem rnodes32 (C : Cfg) (w : World) (hin : C.In w) (hf : C.few) (h : C.ok) : RNODES C w (RNodesOut C w) := by
  unfold RNODES
  have HOK := Lib.hid h
  have HI := Lib.hid hin
  have hok := h.1
  unfold okA at hok
  obtain ⟨⟨hW1, hW2⟩, -, -⟩ := hok
  have hf1 : C.ins.length ≤ 5000 := hf.2.2.1
  have hf2 : C.tiles.length ≤ 1000 := hf.1
  obtain ⟨R, hR⟩ : ∃ R, RNodesOut C w = R := ⟨_, rfl⟩
  rw [hR]
  have HR := Lib.hid hR
  clear hR h hin hf
  have Q0 := below_new w (.cells #[.int .i64 C.W, .int .i64 C.H, .int .i64 C.T, .slice C.AT C.tiles.length C.cT, .slice C.AO C.on.length C.cO, .slice C.AI C.ins.length C.cI, .slice C.AU C.outs.length C.cU] 28)
  have B0 := Box7.new w C 28
  obtain ⟨oA, hoA⟩ : ∃ o, C.AI = o := ⟨_, rfl⟩
  rw [hoA] at Q0 B0
  rw [hoA]
  have HoA := Lib.hid hoA
  clear hoA
  go_enter Tryz.func64, Tryz.ntmps64
  go_wp2_with fail
  go_loopw [3, 14] (fun v i wx => ∃ k : Nat, k ≤ C.ins.length ∧ i = .int .i64 (k : Int) ∧ Below w.heap.size w wx ∧ Box7 wx w.heap.size C ∧ wx.ownsRow (w.heap.size + 1) 3 1 v k (ints ((C.ins.take k).map (padN C)))) (fun _ i _ => C.ins.length - (intOf i).toNat)
  case atStart => exact ⟨0, by omega, rfl, Q0, B0, by simpa [ints] using World.ownsRow_nil _ _ _ _⟩
  case round =>
    clear Q0 B0
    obtain ⟨k, hk, rfl, hq, hb, hown⟩ := hrel
    obtain ⟨AA, c, rfl⟩ := own_slice hown
    have HQ := Lib.hid hq
    have HB := Lib.hid hb
    have HO := Lib.hid hown
    obtain ⟨z, k0, k1, k2, k3, k4, k5, k6⟩ := id hb
    clear hq hb hown
    by_cases hlt : k < C.ins.length
    · obtain ⟨a, ha, hab, hc⟩ := (HI.out.ins).int hlt
      rw [HoA.out] at ha
      subst ha
      rw [HoA.out] at k5
      have hc2 := (HQ.out.cell (p := a.add k) (by rw [add_block]; exact hab)).trans hc
      have hmem : C.ins.getD k 0 ∈ C.ins := by rw [List.getD_eq_getElem?_getD, List.getElem?_eq_getElem hlt]; exact List.getElem_mem hlt
      have htk : (C.ins.take (k + 1)).map (padN C) = (C.ins.take k).map (padN C) ++ [padN C (C.ins.getD k 0)] := by
        rw [List.take_succ_eq_append_getElem hlt, List.map_append, List.getD_eq_getElem?_getD, List.getElem?_eq_getElem hlt]; rfl
      have HT := Lib.hid htk
      clear hc hmem htk
      unfold padN at HT HO
      generalize C.ins.getD k 0 = p at hc2 HT
      go_wp2_with fail
      refine (rpad_any _ _ _ _ _).mono ?_
      rintro e w1 ⟨rfl, hb1⟩
      have Q1 := Lib.hid (below_then HQ.out hb1)
      have B1 := Lib.hid (HB.out.below hb1)
      have O1 := Lib.hid (own_keep HO.out hb1)
      have hs1 : w.heap.size + 1 ≤ w1.heap.size := B1.out.lt
      clear hb1 k0 k1 k2 k3 k4 k5 k6 z hc2
      generalize nodeE C.W C.H C.T 2 p 0 0 = xe
      generalize nodeN C.W C.H C.T 2 p 0 0 = x at HT ⊢
      go_wp2_with (at_builtin; refine wpList_app_int rfl (.tmp 25) (.tmp 27) rfl (w.heap.size + 1) AA k c _ rfl O1.out x rfl (by omega) hs1 ?_)
      intro A2 c2 w2 hown2 hg2
      have hgr : Below (w.heap.size + 1) w1 w2 := ((below_new w1 _).mono hs1).grown hg2 (by simp; omega) (fun k hk => own_base O1.out hk)
      have Q2 := Lib.hid (Q1.out.trans (hgr.mono (by omega)))
      have B2 : Hid (Box7 w2 w.heap.size C) := Lib.hid (box7_low B1.out hgr (by omega))
      have O2 := Lib.hid hown2
      clear hown2 hg2 hgr
      go_wp2_with fail
      go_roundw
      case rel => exact ⟨k + 1, by omega, by go_num, Q2.out, B2.out, by unfold padN; rw [HT.out, List.map_take]; exact O2.out⟩
      case measure => simp [intOf]; omega
    · obtain rfl : k = C.ins.length := by omega
      have hfull : C.ins.take C.ins.length = C.ins := List.take_length
      rw [hfull] at HO
      clear hfull hk
      obtain ⟨P, hP⟩ : ∃ P, C.ins.map (padN C) = P := ⟨_, rfl⟩
      rw [hP] at HO
      have HP := Lib.hid hP
      clear hP
      go_wp2_with fail
      go_loopw [3, 33] (fun v i wx => ∃ k : Nat, k ≤ C.tiles.length ∧ i = .int .i64 (k : Int) ∧ Below w.heap.size w wx ∧ Box7 wx w.heap.size C ∧ wx.ownsRow (w.heap.size + 1) 3 1 v (C.ins.length + k) (ints (P ++ (List.range k).map (outN C)))) (fun _ i _ => C.tiles.length - (intOf i).toNat)
      case atStart => exact ⟨0, by omega, rfl, HQ.out, HB.out, by simpa using HO.out⟩
      case round =>
        clear HQ HB HO z k0 k1 k2 k3 k4 k5 k6
        obtain ⟨q, hqq, rfl, hq, hb, hown⟩ := hrel
        obtain ⟨AA, c, rfl⟩ := own_slice hown
        have HQ := Lib.hid hq
        have HB := Lib.hid hb
        have HO := Lib.hid hown
        obtain ⟨z, k0, k1, k2, k3, k4, k5, k6⟩ := id hb
        rw [HoA.out] at k5
        clear hq hb hown
        by_cases hql : q < C.tiles.length
        · have htk : P ++ (List.range (q + 1)).map (outN C) = (P ++ (List.range q).map (outN C)) ++ [outN C q] := by
            rw [List.range_succ, List.map_append, List.append_assoc]; rfl
          have HT := Lib.hid htk
          clear htk
          have hm : Int.tmod (q : Int) C.W = (q : Int) % C.W := Int.tmod_eq_emod_of_nonneg (by omega)
          have hd : Int.tdiv (q : Int) C.W = (q : Int) / C.W := Int.tdiv_eq_ediv_of_nonneg (by omega)
          have hd0 : 0 ≤ (q : Int) / C.W := Int.ediv_nonneg (by omega) (by omega)
          have hd1 : (q : Int) / C.W ≤ (q : Int) := Int.ediv_le_self _ (by omega)
          have hm0 : 0 ≤ (q : Int) % C.W := Int.emod_nonneg _ (by omega)
          have hm1 : (q : Int) % C.W < C.W := Int.emod_lt_of_pos _ (by omega)
          have hwd : IntKind.i64.wrap ((q : Int) / C.W) = (q : Int) / C.W := IntWalk.i64_in _ (by omega)
          have hwm : IntKind.i64.wrap ((q : Int) % C.W) = (q : Int) % C.W := IntWalk.i64_in _ (by omega)
          have hne : (C.W == 0) = false := by simp; omega
          have hne2 : ¬ C.W = 0 := by omega
          unfold outN at HT HO
          go_wp2_with fail
          go_region_held3 (fun w' => w'.cell? ⟨w.heap.size, 0, none⟩ = some (.int .i64 C.W) ∧ w'.cell? ⟨w.heap.size, 1, none⟩ = some (.int .i64 C.H) ∧ w'.cell? ⟨w.heap.size, 2, none⟩ = some (.int .i64 C.T)) (go_keep) ((first | (go_at_call 95; (with_reducible refine (rout_any _ _ _ _ _ _).mono ?_); rintro e w1 ⟨rfl, hb1⟩; have hb1 := below_of_drew hb1; have Q1 := Lib.hid (below_then HQ.out hb1); have B1 := Lib.hid (HB.out.below hb1); have O1 := Lib.hid (own_keep HO.out hb1); have hs1 : w.heap.size + 1 ≤ w1.heap.size := B1.out.lt; obtain ⟨y, y0, y1, y2, y3, y4, y5, y6⟩ := B1.out; clear hb1)))
          clear k0 k1 k2 k3 k4 k5 k6 z hm hd hd0 hd1 hm0 hm1 hwd hwm hne hne2
          generalize nodeE C.W C.H C.T 0 ((q : Int) % C.W) ((q : Int) / C.W) 0 = xe
          generalize nodeN C.W C.H C.T 0 ((q : Int) % C.W) ((q : Int) / C.W) 0 = x at HT ⊢
          go_wp2_with (at_builtin; refine wpList_app_int rfl (.tmp 52) (.tmp 54) rfl (w.heap.size + 1) AA (C.ins.length + q) c _ rfl O1.out x rfl (by omega) hs1 ?_)
          intro A3 c3 w3 hown3 hg3
          have hgr : Below (w.heap.size + 1) w1 w3 := ((below_new w1 _).mono hs1).grown hg3 (by simp; omega) (fun k hk => own_base O1.out hk)
          have Q3 := Lib.hid (Q1.out.trans (hgr.mono (by omega)))
          have B3 : Hid (Box7 w3 w.heap.size C) := Lib.hid (box7_low B1.out hgr (by omega))
          have O3 := Lib.hid hown3
          clear hown3 hg3 hgr
          go_wp2_with fail
          go_roundw
          case rel => exact ⟨q + 1, by omega, by go_num, Q3.out, B3.out, by unfold outN; rw [← Nat.add_assoc, HT.out, List.append_assoc]; exact O3.out⟩
          case measure => simp [intOf]; omega
        · obtain rfl : q = C.tiles.length := by omega
          have hend : RNodesOut C w (.returned (.slice AA (C.ins.length + C.tiles.length) c)) wr := by
            refine ⟨AA, c, by rw [endsL_length], HQ.out, ?_⟩
            rw [endsL_length]
            have := (HO.out).mono (base' := w.heap.size) (by omega)
            rw [← HP.out] at this
            exact this
          rw [HR.out] at hend
          have HEND := Lib.hid hend
          clear hend
          go_wp2_with fail
          exact HEND.out
end Go.Proofs.YtoloaecbfglaeaaGreat
