/- Walks of filigree/chip: at, ends: the nodes of a chip's wires. -/
import Derived.Test.YtakccepilbmmlaaJoined
import Derived.BigQuiet
import Derived.Deep.Onto
import Derived.Deep.QuietTactic
namespace Go.Proofs.Ytakccepilbmmlaa
open Go.RowKit
set_option linter.unusedVariables false
set_option linter.unusedSimpArgs false

def padN (C : Cfg) (p : Int) : Int := nodeN C.W C.H C.T 2 p 0 0
def outN (C : Cfg) (t : Nat) : Int := nodeN C.W C.H C.T 0 ((t : Int) % C.W) ((t : Int) / C.W) 0
/-- the nodes of a chip's wires -/
def endsL (C : Cfg) : List Int := C.ins.map (padN C) ++ (List.range C.tiles.length).map (outN C)
theorem endsL_length (C : Cfg) : (endsL C).length = C.ins.length + C.tiles.length := by simp [endsL]
theorem pad_there {C : Cfg} (h : C.ok) {p : Int} (hp : p ∈ C.ins) : nodeE C.W C.H C.T 2 p 0 0 = 0 := by
  have h1 := h.2.1.1 p (List.mem_append.2 (.inl hp))
  unfold nodeE
  rw [if_pos ⟨h.1, by simp only [inG, gw, gh, gd]; omega⟩]
theorem tile_there {C : Cfg} (h : C.ok) {t : Nat} (ht : t < C.tiles.length) : (0 ≤ (t : Int) % C.W ∧ (t : Int) % C.W < C.W) ∧ (0 ≤ (t : Int) / C.W ∧ (t : Int) / C.W < C.H) := by
  have hW : 0 < C.W := by have := h.1.1.1; omega
  have hl := h.2.2.1
  refine ⟨⟨Int.emod_nonneg _ (by omega), Int.emod_lt_of_pos _ hW⟩, Int.ediv_nonneg (by omega) (by omega), ?_⟩
  apply Int.ediv_lt_of_lt_mul hW
  rw [Int.mul_comm]
  omega
theorem out_there {C : Cfg} (h : C.ok) {t : Nat} (ht : t < C.tiles.length) : nodeE C.W C.H C.T 0 ((t : Int) % C.W) ((t : Int) / C.W) 0 = 0 := by
  obtain ⟨h1, h2⟩ := tile_there h ht
  unfold nodeE
  rw [if_pos ⟨h.1, by simp only [inG, gw, gh, gd]; omega⟩]

set_option maxRecDepth 100000 in
set_option maxHeartbeats 1000000 in
theorem at_any (C : Cfg) (t : Nat) (w : World) (hW : 1 ≤ C.W) (hW2 : C.W ≤ 16) (ht : t ≤ 100000) :
    Calls Try.prog 92 #[.agg #[.int .i64 C.W, .int .i64 C.H, .int .i64 C.T, .slice C.AT C.tiles.length C.cT, .slice C.AO C.on.length C.cO, .slice C.AI C.ins.length C.cI, .slice C.AU C.outs.length C.cU], .int .i64 (t : Int)] w fun e w' => e = .returned (.tuple #[.int .i64 ((t : Int) % C.W), .int .i64 ((t : Int) / C.W)]) ∧ Below w.heap.size w w' := by
  have hm : Int.tmod (t : Int) C.W = (t : Int) % C.W := Int.tmod_eq_emod_of_nonneg (by omega)
  have hd : Int.tdiv (t : Int) C.W = (t : Int) / C.W := Int.tdiv_eq_ediv_of_nonneg (by omega)
  have hd0 : 0 ≤ (t : Int) / C.W := Int.ediv_nonneg (by omega) (by omega)
  have hd1 : (t : Int) / C.W ≤ (t : Int) := Int.ediv_le_self _ (by omega)
  have hm0 : 0 ≤ (t : Int) % C.W := Int.emod_nonneg _ (by omega)
  have hm1 : (t : Int) % C.W < C.W := Int.emod_lt_of_pos _ (by omega)
  have hwd : IntKind.i64.wrap ((t : Int) / C.W) = (t : Int) / C.W := IntWalk.i64_in _ (by omega)
  have hwm : IntKind.i64.wrap ((t : Int) % C.W) = (t : Int) % C.W := IntWalk.i64_in _ (by omega)
  have hne : (C.W == 0) = false := by simp; omega
  have hne2 : ¬ C.W = 0 := by omega
  go_enter Try.func92, Try.ntmps92
  go_wp2_with fail
  refine wp_region_quiet_lit (by kernel_rfl) (by kernel_rfl) ?_
  iterate 12 (any_goals (first | go_big_quiet_step (fail) | quiet_step (fail)))
  refine wpQuiet_nil ?_
  intro _ hw'
  obtain ⟨nq, hw''⟩ := hw'
  subst hw''
  go_wp2_with fail
  go_ret2
  exact ⟨rfl, below_drewN (below_new w _) _⟩

def ENDS (C : Cfg) (w : World) (R : Ending → World → Prop) : Prop :=
  Calls Try.prog 46 #[.agg #[.int .i64 C.W, .int .i64 C.H, .int .i64 C.T, .slice C.AT C.tiles.length C.cT, .slice C.AO C.on.length C.cO, .slice C.AI C.ins.length C.cI, .slice C.AU C.outs.length C.cU]] w R
/-- what ends leaves -/
def EndsOut (C : Cfg) (w : World) (e : Ending) (w' : World) : Prop :=
  ∃ A c, e = .returned (.tuple #[.slice A (endsL C).length c, .int .i64 0]) ∧ Below w.heap.size w w' ∧ w'.ownsRow w.heap.size 3 1 (.slice A (endsL C).length c) (endsL C).length (ints (endsL C))

set_option maxRecDepth 100000 in
set_option maxHeartbeats 4000000 in
theorem ends_any (C : Cfg) (w : World) (hin : C.In w) (hf : C.few) (h : C.ok) : ENDS C w (EndsOut C w) := by
  unfold ENDS
  have HOK := Lib.hid h
  have HI := Lib.hid hin
  have hok := h.1
  unfold okA at hok
  obtain ⟨⟨hW1, hW2⟩, -, -⟩ := hok
  have hf1 : C.ins.length ≤ 1000 := hf.2.2.1
  have hf2 : C.tiles.length ≤ 1000 := hf.1
  obtain ⟨R, hR⟩ : ∃ R, EndsOut C w = R := ⟨_, rfl⟩
  rw [hR]
  have HR := Lib.hid hR
  clear hR h hin hf
  have Q0 := below_new w (.cells #[.int .i64 C.W, .int .i64 C.H, .int .i64 C.T, .slice C.AT C.tiles.length C.cT, .slice C.AO C.on.length C.cO, .slice C.AI C.ins.length C.cI, .slice C.AU C.outs.length C.cU] 28)
  have B0 := Box7.new w C 28
  obtain ⟨oA, hoA⟩ : ∃ o, C.AI = o := ⟨_, rfl⟩
  rw [hoA] at Q0 B0
  rw [hoA]
  have HoA := Lib.hid hoA
  clear hoA
  obtain ⟨i0, hi0, hz0, hz1, hz2⟩ := info_parts int_info
  have HI0 := Lib.hid hi0
  have HZ0 := Lib.hid hz0
  have HZ1 := Lib.hid hz1
  have HZ2 := Lib.hid hz2
  clear hi0 hz0 hz1 hz2
  go_enter Try.func46, Try.ntmps46
  go_wp2_with fail
  go_loopw [4, 17] (fun v i wx => ∃ k : Nat, k ≤ C.ins.length ∧ i = .int .i64 (k : Int) ∧ Below w.heap.size w wx ∧ Box7 wx w.heap.size C ∧ wx.ownsRow (w.heap.size + 1) 3 1 v k (ints ((C.ins.take k).map (padN C)))) (fun _ i _ => C.ins.length - (intOf i).toNat)
  case atStart => exact ⟨0, by omega, rfl, Q0, B0, by simpa [ints] using World.ownsRow_nil _ _ _ _⟩
  case round =>
    clear Q0 B0
    obtain ⟨k, hk, rfl, hq, hb, hown⟩ := hrel
    obtain ⟨AA, c, rfl⟩ := own_slice hown
    have HQ := Lib.hid hq
    have HB := Lib.hid hb
    have HO := Lib.hid hown
    obtain ⟨z, k0, k1, k2, k3, k4, k5, k6⟩ := id hb
    clear hq hb hown
    by_cases hlt : k < C.ins.length
    · obtain ⟨a, ha, hab, hc⟩ := (HI.out.ins).int hlt
      rw [HoA.out] at ha
      subst ha
      rw [HoA.out] at k5
      have hc2 := (HQ.out.cell (p := a.add k) (by rw [add_block]; exact hab)).trans hc
      have hmem : C.ins.getD k 0 ∈ C.ins := by rw [List.getD_eq_getElem?_getD, List.getElem?_eq_getElem hlt]; exact List.getElem_mem hlt
      have he := pad_there HOK.out hmem
      have htk : (C.ins.take (k + 1)).map (padN C) = (C.ins.take k).map (padN C) ++ [padN C (C.ins.getD k 0)] := by
        rw [List.take_succ_eq_append_getElem hlt, List.map_append, List.getD_eq_getElem?_getD, List.getElem?_eq_getElem hlt]; rfl
      have HT := Lib.hid htk
      clear hc hmem htk
      unfold padN at HT HO
      generalize C.ins.getD k 0 = p at hc2 he HT
      go_wp2_with fail
      refine (pad_any _ _ _ _ _).mono ?_
      rintro e w1 ⟨rfl, hb1⟩
      rw [he]
      clear he
      have Q1 := Lib.hid (below_then HQ.out hb1)
      have B1 := Lib.hid (HB.out.below hb1)
      have O1 := Lib.hid (own_keep HO.out hb1)
      have hs1 : w.heap.size + 1 ≤ w1.heap.size := B1.out.lt
      clear hb1 k0 k1 k2 k3 k4 k5 k6 z hc2
      generalize nodeN C.W C.H C.T 2 p 0 0 = x at HT
      go_wp2_with (at_builtin; refine wpList_append_own _ rfl (.tmp 31) (.tmp 33) 26 rfl (w.heap.size + 1) 3 i0 (.int .i64 0) 1 8 Try.underlying26 HI0.out HZ0.out HZ1.out HZ2.out rfl (by decide) (.slice AA k c) k _ rfl (O1.out.alloc _) ⟨w1.heap.size, 0, none⟩ 1 1 [.int .i64 x] rfl rfl ?c1 ?c2 ?c3 ?c4 ?c5 ?_)
      case c1 =>
        intro j u hj
        rcases j with _ | j
        · simp at hj; subst hj; go_simp
        · simp at hj
      case c2 =>
        intro u hu
        simp at hu
        subst hu
        rfl
      case c3 => unfold maxLen; omega
      case c4 => omega
      case c5 => simp; omega
      intro v' w2 hown2 hg2 hnil
      have hgr : Below (w.heap.size + 1) w1 w2 := ((below_new w1 _).mono hs1).grown hg2 (by simp; omega) (fun k hk => own_base O1.out hk)
      have Q2 := Lib.hid (Q1.out.trans (hgr.mono (by omega)))
      have B2 : Hid (Box7 w2 w.heap.size C) := Lib.hid (box7_low B1.out hgr (by omega))
      have O2 := Lib.hid hown2
      clear hown2 hg2 hnil hgr
      go_wp2_with fail
      go_roundw
      case rel => exact ⟨k + 1, by omega, by go_num, Q2.out, B2.out, by unfold padN; rw [HT.out, ints_append, List.map_take]; exact O2.out⟩
      case measure => simp [intOf]; omega
    · obtain rfl : k = C.ins.length := by omega
      have hfull : C.ins.take C.ins.length = C.ins := List.take_length
      rw [hfull] at HO
      clear hfull hk
      obtain ⟨P, hP⟩ : ∃ P, C.ins.map (padN C) = P := ⟨_, rfl⟩
      rw [hP] at HO
      have hPl : P.length = C.ins.length := by rw [← hP]; simp
      have HP := Lib.hid hP
      have HPL := Lib.hid hPl
      clear hP hPl
      go_wp2_with fail
      go_loopw [4, 39] (fun v i wx => ∃ k : Nat, k ≤ C.tiles.length ∧ i = .int .i64 (k : Int) ∧ Below w.heap.size w wx ∧ Box7 wx w.heap.size C ∧ wx.ownsRow (w.heap.size + 1) 3 1 v (C.ins.length + k) (ints (P ++ (List.range k).map (outN C)))) (fun _ i _ => C.tiles.length - (intOf i).toNat)
      case atStart => exact ⟨0, by omega, rfl, HQ.out, HB.out, by simpa using HO.out⟩
      case round =>
        clear HQ HB HO z k0 k1 k2 k3 k4 k5 k6
        obtain ⟨q, hqq, rfl, hq, hb, hown⟩ := hrel
        obtain ⟨AA, c, rfl⟩ := own_slice hown
        have HQ := Lib.hid hq
        have HB := Lib.hid hb
        have HO := Lib.hid hown
        obtain ⟨z, k0, k1, k2, k3, k4, k5, k6⟩ := id hb
        rw [HoA.out] at k5
        clear hq hb hown
        by_cases hql : q < C.tiles.length
        · have he := out_there HOK.out hql
          have htk : P ++ (List.range (q + 1)).map (outN C) = (P ++ (List.range q).map (outN C)) ++ [outN C q] := by
            rw [List.range_succ, List.map_append, List.append_assoc]; rfl
          have HT := Lib.hid htk
          have HE := Lib.hid he
          clear htk he
          have hat := fun (w' : World) => at_any C q w' hW1 hW2 (by omega)
          rw [HoA.out] at hat
          have HAT := Lib.hid hat
          clear hat
          go_wp2_with fail
          refine (HAT.out _).mono ?_
          rintro e w1 ⟨rfl, hb1⟩
          have Q1 := Lib.hid (below_then HQ.out hb1)
          have B1 := Lib.hid (HB.out.below hb1)
          have O1 := Lib.hid (own_keep HO.out hb1)
          clear hb1 k0 k1 k2 k3 k4 k5 k6 z
          obtain ⟨z, k0, k1, k2, k3, k4, k5, k6⟩ := B1.out
          go_wp2_with fail
          refine (out_any _ _ _ _ _ _).mono ?_
          rintro e w2 ⟨rfl, hb2⟩
          rw [HE.out]
          have Q2 := Lib.hid (below_then Q1.out hb2)
          have B2 := Lib.hid (B1.out.below hb2)
          have O2 := Lib.hid (own_keep O1.out hb2)
          have hs2 : w.heap.size + 1 ≤ w2.heap.size := B2.out.lt
          clear hb2 k0 k1 k2 k3 k4 k5 k6 z
          unfold outN at HT O2
          generalize nodeN C.W C.H C.T 0 ((q : Int) % C.W) ((q : Int) / C.W) 0 = x at HT
          go_wp2_with (at_builtin; refine wpList_append_own _ rfl (.tmp 59) (.tmp 61) 26 rfl (w.heap.size + 1) 3 i0 (.int .i64 0) 1 8 Try.underlying26 HI0.out HZ0.out HZ1.out HZ2.out rfl (by decide) (.slice AA (C.ins.length + q) c) (C.ins.length + q) _ rfl (O2.out.alloc _) ⟨w2.heap.size, 0, none⟩ 1 1 [.int .i64 x] rfl rfl ?c1 ?c2 ?c3 ?c4 ?c5 ?_)
          case c1 =>
            intro j u hj
            rcases j with _ | j
            · simp at hj; subst hj; go_simp
            · simp at hj
          case c2 =>
            intro u hu
            simp at hu
            subst hu
            rfl
          case c3 => unfold maxLen; omega
          case c4 => omega
          case c5 => simp; omega
          intro v' w3 hown3 hg3 hnil
          have hgr : Below (w.heap.size + 1) w2 w3 := ((below_new w2 _).mono hs2).grown hg3 (by simp; omega) (fun k hk => own_base O2.out hk)
          have Q3 := Lib.hid (Q2.out.trans (hgr.mono (by omega)))
          have B3 : Hid (Box7 w3 w.heap.size C) := Lib.hid (box7_low B2.out hgr (by omega))
          have O3 := Lib.hid hown3
          clear hown3 hg3 hnil hgr
          go_wp2_with fail
          go_roundw
          case rel => exact ⟨q + 1, by omega, by go_num, Q3.out, B3.out, by unfold outN; rw [HT.out, ints_append]; exact O3.out⟩
          case measure => simp [intOf]; omega
        · obtain rfl : q = C.tiles.length := by omega
          have hend : EndsOut C w (.returned (.tuple #[.slice AA (C.ins.length + C.tiles.length) c, .int .i64 0])) wr := by
            refine ⟨AA, c, by rw [endsL_length], HQ.out, ?_⟩
            rw [endsL_length]
            have := (HO.out).mono (base' := w.heap.size) (by omega)
            rw [← HP.out] at this
            exact this
          rw [HR.out] at hend
          have HEND := Lib.hid hend
          clear hend
          go_wp2_with fail
          exact HEND.out
end Go.Proofs.Ytakccepilbmmlaa
