/- Walks of filigree/chip: at, ends: the nodes of a chip's wires. · Walk of filigree/chip.Drivers: who drives each node. -/
import Derived.Test.YtoloaecbfglaeaaGreatJoined
import Derived.BigQuiet
import Derived.Deep.Onto
import Derived.Deep.QuietTactic
import Derived.Maps.Own
import Derived.Maps.OwnSet
import Derived.Maps.OwnOps
import Derived.Maps.Views

namespace Go.Proofs.YtoloaecbfglaeaaGreat
open Go.RowKit
set_option linter.unusedVariables false
set_option linter.unusedSimpArgs false

def padN (C : Cfg) (p : Int) : Int := nodeN C.W C.H C.T 2 p 0 0
def outN (C : Cfg) (t : Nat) : Int := nodeN C.W C.H C.T 0 ((t : Int) % C.W) ((t : Int) / C.W) 0
/-- the nodes of a chip's wires -/
def endsL (C : Cfg) : List Int := C.ins.map (padN C) ++ (List.range C.tiles.length).map (outN C)
theorem endsL_length (C : Cfg) : (endsL C).length = C.ins.length + C.tiles.length := by simp [endsL]
theorem pad_there {C : Cfg} (h : C.ok) {p : Int} (hp : p ∈ C.ins) : nodeE C.W C.H C.T 2 p 0 0 = 0 := by
  have h1 := h.2.1.1 p (List.mem_append.2 (.inl hp))
  unfold nodeE
  rw [if_pos ⟨h.1, by simp only [inG, gw, gh, gd]; omega⟩]
theorem tile_there {C : Cfg} (h : C.ok) {t : Nat} (ht : t < C.tiles.length) : (0 ≤ (t : Int) % C.W ∧ (t : Int) % C.W < C.W) ∧ (0 ≤ (t : Int) / C.W ∧ (t : Int) / C.W < C.H) := by
  have hW : 0 < C.W := by have := h.1.1.1; omega
  have hl := h.2.2.1
  refine ⟨⟨Int.emod_nonneg _ (by omega), Int.emod_lt_of_pos _ hW⟩, Int.ediv_nonneg (by omega) (by omega), ?_⟩
  apply Int.ediv_lt_of_lt_mul hW
  rw [Int.mul_comm]
  omega
theorem out_there {C : Cfg} (h : C.ok) {t : Nat} (ht : t < C.tiles.length) : nodeE C.W C.H C.T 0 ((t : Int) % C.W) ((t : Int) / C.W) 0 = 0 := by
  obtain ⟨h1, h2⟩ := tile_there h ht
  unfold nodeE
  rw [if_pos ⟨h.1, by simp only [inG, gw, gh, gd]; omega⟩]

set_option maxRecDepth 100000 in
set_option maxHeartbeats 1000000 in
theorem at_any (C : Cfg) (t : Nat) (w : World) (hW : 1 ≤ C.W) (hW2 : C.W ≤ 16) (ht : t ≤ 100000) :
    Calls Tryz.prog 26 #[.agg #[.int .i64 C.W, .int .i64 C.H, .int .i64 C.T, .slice C.AT C.tiles.length C.cT, .slice C.AO C.on.length C.cO, .slice C.AI C.ins.length C.cI, .slice C.AU C.outs.length C.cU], .int .i64 (t : Int)] w fun e w' => e = .returned (.tuple #[.int .i64 ((t : Int) % C.W), .int .i64 ((t : Int) / C.W)]) ∧ Below w.heap.size w w' := by
  have hm : Int.tmod (t : Int) C.W = (t : Int) % C.W := Int.tmod_eq_emod_of_nonneg (by omega)
  have hd : Int.tdiv (t : Int) C.W = (t : Int) / C.W := Int.tdiv_eq_ediv_of_nonneg (by omega)
  have hd0 : 0 ≤ (t : Int) / C.W := Int.ediv_nonneg (by omega) (by omega)
  have hd1 : (t : Int) / C.W ≤ (t : Int) := Int.ediv_le_self _ (by omega)
  have hm0 : 0 ≤ (t : Int) % C.W := Int.emod_nonneg _ (by omega)
  have hm1 : (t : Int) % C.W < C.W := Int.emod_lt_of_pos _ (by omega)
  have hwd : IntKind.i64.wrap ((t : Int) / C.W) = (t : Int) / C.W := IntWalk.i64_in _ (by omega)
  have hwm : IntKind.i64.wrap ((t : Int) % C.W) = (t : Int) % C.W := IntWalk.i64_in _ (by omega)
  have hne : (C.W == 0) = false := by simp; omega
  have hne2 : ¬ C.W = 0 := by omega
  go_enter Tryz.func26, Tryz.ntmps26
  go_wp2_with fail
  refine wp_region_quiet_lit (by kernel_rfl) (by kernel_rfl) ?_
  iterate 12 (any_goals (first | go_big_quiet_step (fail) | quiet_step (fail)))
  refine wpQuiet_nil ?_
  intro _ hw'
  obtain ⟨nq, hw''⟩ := hw'
  subst hw''
  go_wp2_with fail
  go_ret2
  exact ⟨rfl, below_drewN (below_new w _) _⟩

def ENDS (C : Cfg) (w : World) (R : Ending → World → Prop) : Prop :=
  Calls Tryz.prog 60 #[.agg #[.int .i64 C.W, .int .i64 C.H, .int .i64 C.T, .slice C.AT C.tiles.length C.cT, .slice C.AO C.on.length C.cO, .slice C.AI C.ins.length C.cI, .slice C.AU C.outs.length C.cU]] w R
/-- what ends leaves -/
def EndsOut (C : Cfg) (w : World) (e : Ending) (w' : World) : Prop :=
  ∃ A c, e = .returned (.tuple #[.slice A (endsL C).length c, .int .i64 0]) ∧ Below w.heap.size w w' ∧ w'.ownsRow w.heap.size 3 1 (.slice A (endsL C).length c) (endsL C).length (ints (endsL C))

set_option maxRecDepth 100000 in
set_option maxHeartbeats 4000000 in
theorem ends_any (C : Cfg) (w : World) (hin : C.In w) (hf : C.few) (h : C.ok) : ENDS C w (EndsOut C w) := by
  unfold ENDS
  have HOK := Lib.hid h
  have HI := Lib.hid hin
  have hok := h.1
  unfold okA at hok
  obtain ⟨⟨hW1, hW2⟩, -, -⟩ := hok
  have hf1 : C.ins.length ≤ 5000 := hf.2.2.1
  have hf2 : C.tiles.length ≤ 1000 := hf.1
  obtain ⟨R, hR⟩ : ∃ R, EndsOut C w = R := ⟨_, rfl⟩
  rw [hR]
  have HR := Lib.hid hR
  clear hR h hin hf
  have Q0 := below_new w (.cells #[.int .i64 C.W, .int .i64 C.H, .int .i64 C.T, .slice C.AT C.tiles.length C.cT, .slice C.AO C.on.length C.cO, .slice C.AI C.ins.length C.cI, .slice C.AU C.outs.length C.cU] 28)
  have B0 := Box7.new w C 28
  obtain ⟨oA, hoA⟩ : ∃ o, C.AI = o := ⟨_, rfl⟩
  rw [hoA] at Q0 B0
  rw [hoA]
  have HoA := Lib.hid hoA
  clear hoA
  obtain ⟨i0, hi0, hz0, hz1, hz2⟩ := info_parts int_info
  have HI0 := Lib.hid hi0
  have HZ0 := Lib.hid hz0
  have HZ1 := Lib.hid hz1
  have HZ2 := Lib.hid hz2
  clear hi0 hz0 hz1 hz2
  go_enter Tryz.func60, Tryz.ntmps60
  go_wp2_with fail
  go_loopw [4, 17] (fun v i wx => ∃ k : Nat, k ≤ C.ins.length ∧ i = .int .i64 (k : Int) ∧ Below w.heap.size w wx ∧ Box7 wx w.heap.size C ∧ wx.ownsRow (w.heap.size + 1) 3 1 v k (ints ((C.ins.take k).map (padN C)))) (fun _ i _ => C.ins.length - (intOf i).toNat)
  case atStart => exact ⟨0, by omega, rfl, Q0, B0, by simpa [ints] using World.ownsRow_nil _ _ _ _⟩
  case round =>
    clear Q0 B0
    obtain ⟨k, hk, rfl, hq, hb, hown⟩ := hrel
    obtain ⟨AA, c, rfl⟩ := own_slice hown
    have HQ := Lib.hid hq
    have HB := Lib.hid hb
    have HO := Lib.hid hown
    obtain ⟨z, k0, k1, k2, k3, k4, k5, k6⟩ := id hb
    clear hq hb hown
    by_cases hlt : k < C.ins.length
    · obtain ⟨a, ha, hab, hc⟩ := (HI.out.ins).int hlt
      rw [HoA.out] at ha
      subst ha
      rw [HoA.out] at k5
      have hc2 := (HQ.out.cell (p := a.add k) (by rw [add_block]; exact hab)).trans hc
      have hmem : C.ins.getD k 0 ∈ C.ins := by rw [List.getD_eq_getElem?_getD, List.getElem?_eq_getElem hlt]; exact List.getElem_mem hlt
      have he := pad_there HOK.out hmem
      have htk : (C.ins.take (k + 1)).map (padN C) = (C.ins.take k).map (padN C) ++ [padN C (C.ins.getD k 0)] := by
        rw [List.take_succ_eq_append_getElem hlt, List.map_append, List.getD_eq_getElem?_getD, List.getElem?_eq_getElem hlt]; rfl
      have HT := Lib.hid htk
      clear hc hmem htk
      unfold padN at HT HO
      generalize C.ins.getD k 0 = p at hc2 he HT
      go_wp2_with fail
      refine (pad_any _ _ _ _ _).mono ?_
      rintro e w1 ⟨rfl, hb1⟩
      rw [he]
      clear he
      have Q1 := Lib.hid (below_then HQ.out hb1)
      have B1 := Lib.hid (HB.out.below hb1)
      have O1 := Lib.hid (own_keep HO.out hb1)
      have hs1 : w.heap.size + 1 ≤ w1.heap.size := B1.out.lt
      clear hb1 k0 k1 k2 k3 k4 k5 k6 z hc2
      generalize nodeN C.W C.H C.T 2 p 0 0 = x at HT
      go_wp2_with (at_builtin; refine wpList_append_own _ rfl (.tmp 31) (.tmp 33) 26 rfl (w.heap.size + 1) 3 i0 (.int .i64 0) 1 8 Tryz.underlying26 HI0.out HZ0.out HZ1.out HZ2.out rfl (by decide) (.slice AA k c) k _ rfl (O1.out.alloc _) ⟨w1.heap.size, 0, none⟩ 1 1 [.int .i64 x] rfl rfl ?c1 ?c2 ?c3 ?c4 ?c5 ?_)
      case c1 =>
        intro j u hj
        rcases j with _ | j
        · simp at hj; subst hj; go_simp
        · simp at hj
      case c2 =>
        intro u hu
        simp at hu
        subst hu
        rfl
      case c3 => unfold maxLen; omega
      case c4 => omega
      case c5 => simp; omega
      intro v' w2 hown2 hg2 hnil
      have hgr : Below (w.heap.size + 1) w1 w2 := ((below_new w1 _).mono hs1).grown hg2 (by simp; omega) (fun k hk => own_base O1.out hk)
      have Q2 := Lib.hid (Q1.out.trans (hgr.mono (by omega)))
      have B2 : Hid (Box7 w2 w.heap.size C) := Lib.hid (box7_low B1.out hgr (by omega))
      have O2 := Lib.hid hown2
      clear hown2 hg2 hnil hgr
      go_wp2_with fail
      go_roundw
      case rel => exact ⟨k + 1, by omega, by go_num, Q2.out, B2.out, by unfold padN; rw [HT.out, ints_append, List.map_take]; exact O2.out⟩
      case measure => simp [intOf]; omega
    · obtain rfl : k = C.ins.length := by omega
      have hfull : C.ins.take C.ins.length = C.ins := List.take_length
      rw [hfull] at HO
      clear hfull hk
      obtain ⟨P, hP⟩ : ∃ P, C.ins.map (padN C) = P := ⟨_, rfl⟩
      rw [hP] at HO
      have hPl : P.length = C.ins.length := by rw [← hP]; simp
      have HP := Lib.hid hP
      have HPL := Lib.hid hPl
      clear hP hPl
      go_wp2_with fail
      go_loopw [4, 39] (fun v i wx => ∃ k : Nat, k ≤ C.tiles.length ∧ i = .int .i64 (k : Int) ∧ Below w.heap.size w wx ∧ Box7 wx w.heap.size C ∧ wx.ownsRow (w.heap.size + 1) 3 1 v (C.ins.length + k) (ints (P ++ (List.range k).map (outN C)))) (fun _ i _ => C.tiles.length - (intOf i).toNat)
      case atStart => exact ⟨0, by omega, rfl, HQ.out, HB.out, by simpa using HO.out⟩
      case round =>
        clear HQ HB HO z k0 k1 k2 k3 k4 k5 k6
        obtain ⟨q, hqq, rfl, hq, hb, hown⟩ := hrel
        obtain ⟨AA, c, rfl⟩ := own_slice hown
        have HQ := Lib.hid hq
        have HB := Lib.hid hb
        have HO := Lib.hid hown
        obtain ⟨z, k0, k1, k2, k3, k4, k5, k6⟩ := id hb
        rw [HoA.out] at k5
        clear hq hb hown
        by_cases hql : q < C.tiles.length
        · have he := out_there HOK.out hql
          have htk : P ++ (List.range (q + 1)).map (outN C) = (P ++ (List.range q).map (outN C)) ++ [outN C q] := by
            rw [List.range_succ, List.map_append, List.append_assoc]; rfl
          have HT := Lib.hid htk
          have HE := Lib.hid he
          clear htk he
          have hat := fun (w' : World) => at_any C q w' hW1 hW2 (by omega)
          rw [HoA.out] at hat
          have HAT := Lib.hid hat
          clear hat
          go_wp2_with fail
          refine (HAT.out _).mono ?_
          rintro e w1 ⟨rfl, hb1⟩
          have Q1 := Lib.hid (below_then HQ.out hb1)
          have B1 := Lib.hid (HB.out.below hb1)
          have O1 := Lib.hid (own_keep HO.out hb1)
          clear hb1 k0 k1 k2 k3 k4 k5 k6 z
          obtain ⟨z, k0, k1, k2, k3, k4, k5, k6⟩ := B1.out
          go_wp2_with fail
          refine (out_any _ _ _ _ _ _).mono ?_
          rintro e w2 ⟨rfl, hb2⟩
          rw [HE.out]
          have Q2 := Lib.hid (below_then Q1.out hb2)
          have B2 := Lib.hid (B1.out.below hb2)
          have O2 := Lib.hid (own_keep O1.out hb2)
          have hs2 : w.heap.size + 1 ≤ w2.heap.size := B2.out.lt
          clear hb2 k0 k1 k2 k3 k4 k5 k6 z
          unfold outN at HT O2
          generalize nodeN C.W C.H C.T 0 ((q : Int) % C.W) ((q : Int) / C.W) 0 = x at HT
          go_wp2_with (at_builtin; refine wpList_append_own _ rfl (.tmp 59) (.tmp 61) 26 rfl (w.heap.size + 1) 3 i0 (.int .i64 0) 1 8 Tryz.underlying26 HI0.out HZ0.out HZ1.out HZ2.out rfl (by decide) (.slice AA (C.ins.length + q) c) (C.ins.length + q) _ rfl (O2.out.alloc _) ⟨w2.heap.size, 0, none⟩ 1 1 [.int .i64 x] rfl rfl ?c1 ?c2 ?c3 ?c4 ?c5 ?_)
          case c1 =>
            intro j u hj
            rcases j with _ | j
            · simp at hj; subst hj; go_simp
            · simp at hj
          case c2 =>
            intro u hu
            simp at hu
            subst hu
            rfl
          case c3 => unfold maxLen; omega
          case c4 => omega
          case c5 => simp; omega
          intro v' w3 hown3 hg3 hnil
          have hgr : Below (w.heap.size + 1) w2 w3 := ((below_new w2 _).mono hs2).grown hg3 (by simp; omega) (fun k hk => own_base O2.out hk)
          have Q3 := Lib.hid (Q2.out.trans (hgr.mono (by omega)))
          have B3 : Hid (Box7 w3 w.heap.size C) := Lib.hid (box7_low B2.out hgr (by omega))
          have O3 := Lib.hid hown3
          clear hown3 hg3 hnil hgr
          go_wp2_with fail
          go_roundw
          case rel => exact ⟨q + 1, by omega, by go_num, Q3.out, B3.out, by unfold outN; rw [HT.out, ints_append]; exact O3.out⟩
          case measure => simp [intOf]; omega
        · obtain rfl : q = C.tiles.length := by omega
          have hend : EndsOut C w (.returned (.tuple #[.slice AA (C.ins.length + C.tiles.length) c, .int .i64 0])) wr := by
            refine ⟨AA, c, by rw [endsL_length], HQ.out, ?_⟩
            rw [endsL_length]
            have := (HO.out).mono (base' := w.heap.size) (by omega)
            rw [← HP.out] at this
            exact this
          rw [HR.out] at hend
          have HEND := Lib.hid hend
          clear hend
          go_wp2_with fail
          exact HEND.out
end Go.Proofs.YtoloaecbfglaeaaGreat

namespace Go.Proofs.YtoloaecbfglaeaaGreat
open Go.RowKit Go.Maps
set_option linter.unusedVariables false
set_option linter.unusedSimpArgs false

/-- the label of each wire's node -/
def labs (C : Cfg) : List Nat := (endsL C).map fun n => (joinedL C).getD n.toNat 0
/-- the wire of a label, or -1 -/
def whoseOf (l : List Nat) (n : Nat) : Int := match l.findIdx? (· == n) with | some w => (w : Int) | none => -1
def driversL (C : Cfg) : List Int := (joinedL C).map (whoseOf (labs C))
theorem labs_length (C : Cfg) : (labs C).length = C.ins.length + C.tiles.length := by simp [labs, endsL_length]

theorem ends_in {C : Cfg} (h : C.ok) {n : Int} (hn : n ∈ endsL C) : 0 ≤ n ∧ n < nodesI C.W C.H C.T := by
  unfold endsL at hn
  have key : ∀ k x y, k < 5 → inG C.W C.H C.T k x y 0 → 0 ≤ nodeN C.W C.H C.T k x y 0 ∧ nodeN C.W C.H C.T k x y 0 < nodesI C.W C.H C.T := by
    intro k x y hk hg
    have e : nodeN C.W C.H C.T k x y 0 = nodeAt C.W C.H C.T k x y 0 := by unfold nodeN; rw [if_pos ⟨h.1, hg⟩]
    obtain ⟨a1, -⟩ := nodeAt_what h.1 hk hg
    rw [e]
    exact a1.2
  rcases List.mem_append.1 hn with hn | hn
  · obtain ⟨p, hp, rfl⟩ := List.mem_map.1 hn
    have h1 := h.2.1.1 p (List.mem_append.2 (.inl hp))
    exact key 2 p 0 (by omega) (by simp only [inG, gw, gh, gd]; omega)
  · obtain ⟨t, ht, rfl⟩ := List.mem_map.1 hn
    obtain ⟨h1, h2⟩ := tile_there h (List.mem_range.1 ht)
    exact key 0 _ _ (by omega) (by simp only [inG, gw, gh, gd]; omega)

/-- what the map holds when the first k wires are in -/
structure Whose (l : List Nat) (k : Nat) (D : DataW Unit) : Prop where
  map : IsMap D
  has : ∀ n : Nat, Maps.has D (.int .i64 (n : Int)) = decide (n ∈ l.take k)
  at_ : ∀ (w n : Nat), w < k → l[w]? = some n → ∀ z, D.atKey (.int .i64 (n : Int)) z = .lit (.int .i64 (w : Int))
theorem Whose.start (l : List Nat) : Whose l 0 (.map []) := ⟨⟨[], rfl⟩, fun n => by simp [Maps.has], fun w n h => by omega⟩
theorem key_lit (n : Nat) : WideAt.IsKeyLit (.int .i64 (n : Int)) := by simp [WideAt.IsKeyLit]
theorem Whose.next {l : List Nat} {k n : Nat} {D : DataW Unit} (h : Whose l k D) (hk : l[k]? = some n) (hn : ¬ n ∈ l.take k) : Whose l (k + 1) (D.put (.int .i64 (n : Int)) (.lit (.int .i64 (k : Int)))) := by
  have hkl : k < l.length := (List.getElem?_eq_some_iff.1 hk).1
  have hkv : l[k] = n := (List.getElem?_eq_some_iff.1 hk).2
  have htk : l.take (k + 1) = l.take k ++ [n] := by rw [List.take_succ_eq_append_getElem hkl, hkv]
  refine ⟨h.map.put _ _, fun m => ?_, fun w m hw hm z => ?_⟩
  · by_cases e : m = n
    · subst e
      rw [has_put_same h.map (key_lit m), htk]
      simp
    · rw [has_put_other (fun hx => e (by simp at hx; omega)), h.has m, htk]
      simp [e]
  · by_cases e : w = k
    · subst e
      rw [hk] at hm
      injection hm with hm
      subst hm
      exact atKey_put_same h.map (key_lit _) _ _
    · have hne : m ≠ n := by
        rintro rfl
        exact hn (List.mem_iff_getElem?.2 ⟨w, by rw [List.getElem?_take, if_pos (by omega)]; exact hm⟩)
      rw [atKey_put_other (fun hx => hne (by simp at hx; omega))]
      exact h.at_ w m (by omega) hm z
theorem Whose.tells {l : List Nat} {k : Nat} {D : DataW Unit} (h : Whose l k D) (hk : l.length = k) (hd : l.Nodup) (n : Nat) {c : Int} (hc : D.atKey (.int .i64 (n : Int)) (.lit (.int .i64 0)) = .lit (.int .i64 c)) :
    (Maps.has D (.int .i64 (n : Int)) = true → whoseOf l n = c) ∧ (Maps.has D (.int .i64 (n : Int)) = false → whoseOf l n = -1) := by
  subst hk
  have hh := h.has n
  rw [List.take_length] at hh
  rw [hh]
  refine ⟨fun hm => ?_, fun hm => ?_⟩
  · simp only [decide_eq_true_eq] at hm
    obtain ⟨w, hw, e⟩ := List.mem_iff_getElem.1 hm
    have h1 := h.at_ w n hw (by rw [List.getElem?_eq_getElem hw, e]) (.lit (.int .i64 0))
    rw [h1] at hc
    have hcw : (w : Int) = c := by simpa using hc
    have : l.findIdx? (· == n) = some w := by
      rw [List.findIdx?_eq_some_iff_getElem]
      refine ⟨hw, by simp [e], fun j hj => ?_⟩
      have hne : l[j] ≠ l[w] := List.pairwise_iff_getElem.1 hd j w (by omega) hw hj
      rw [e] at hne
      simpa using hne
    unfold whoseOf
    rw [this]
    exact hcw
  · simp only [decide_eq_false_iff_not] at hm
    have : l.findIdx? (· == n) = none := by
      rw [List.findIdx?_eq_none_iff]
      intro x hx
      simp only [beq_eq_false_iff_ne]
      rintro rfl
      exact hm hx
    unfold whoseOf
    rw [this]

/-- WHAT DRIVERS HOLDS within its loops -/
structure DW (w0 wx : World) (g N : Nat) (L : List Int) (AE : Option Addr) (n cE base : Nat) (E : List Int) (B k : Nat) (D : DataW Unit) : Prop where
  below : Below w0.heap.size w0 wx
  row : wx.ownsRow g 3 1 (.slice (some ⟨g, 0, none⟩) N N) N (ints L)
  ends : wx.ownsRow base 3 1 (.slice AE n cE) n (ints E)
  map : wx.ownsMap Tryz.prog 3 (plainElem (H := Unit) Tryz.prog 3) B k D
  hg : w0.heap.size ≤ g
  hB : w0.heap.size ≤ B
  gB : g ≠ B
  eB : (Value.slice AE n cE).ownBlock ≠ some B
  eg : (Value.slice AE n cE).ownBlock ≠ some g
section
variable {w0 wx wy : World} {g N : Nat} {L : List Int} {AE : Option Addr} {n cE base : Nat} {E : List Int} {B k k' : Nat} {D D' : DataW Unit}
theorem DW.put (h : DW w0 wx g N L AE n cE base E B k D) (hm : wy.ownsMap Tryz.prog 3 (plainElem (H := Unit) Tryz.prog 3) B k' D') (hg : wx.grownBy wy (some B)) : DW w0 wy g N L AE n cE base E B k' D' :=
  ⟨h.below.grown hg h.below.size (fun j hj => by injection hj with hj; have := h.hB; omega), own_kept h.row hg (fun e => h.gB (by simpa [Value.ownBlock] using e)), own_kept h.ends hg h.eB, hm, h.hg, h.hB, h.gB, h.eB, h.eg⟩
theorem DW.store (h : DW w0 wx g N L AE n cE base E B k D) (j : Nat) (x : Int) : DW w0 (wx.setCell ⟨g, j, none⟩ (.int .i64 x)) g N (L.set j x) AE n cE base E B k D := by
  obtain ⟨h1, h2⟩ := h.row.stored j (.int .i64 x)
  have e : (ints L).set j (.int .i64 x) = ints (L.set j x) := by simp [ints, List.map_set]
  rw [e] at h1
  exact ⟨h.below.grown h2 h.below.size (fun j hj => by injection hj with hj; have := h.hg; omega), h1, own_kept h.ends h2 h.eg, h.map.kept h2 (fun e => h.gB (by injection e with e; exact e.symm)), h.hg, h.hB, h.gB, h.eB, h.eg⟩
theorem DW.len (h : DW w0 wx g N L AE n cE base E B k D) : L.length = N := by have := h.row.1; rw [ints_length] at this; omega
theorem DW.cell (h : DW w0 wx g N L AE n cE base E B k D) {j : Nat} (hj : j < N) : wx.cell? ⟨g, j, none⟩ = some (.int .i64 (L.getD j 0)) ∧ wx.frozen? ⟨g, j, none⟩ = false := by
  refine ⟨?_, h.row.frozenAt j⟩
  rw [h.row.cellAt j (by omega)]
  have := h.len
  simp [ints, List.getD_eq_getElem?_getD, List.getElem?_eq_getElem (show j < L.length by omega)]
end
/-- the labels as numbers of Go -/
def labI (C : Cfg) : List Int := (joinedL C).map fun (n : Nat) => (n : Int)
theorem labI_ints (C : Cfg) : ints (labI C) = nats (joinedL C) := by simp [ints, labI, nats]
theorem labI_getD (C : Cfg) (j : Nat) : (labI C).getD j 0 = ((joinedL C).getD j 0 : Int) := by
  simp only [labI, List.getD_eq_getElem?_getD, List.getElem?_map]
  cases (joinedL C)[j]? <;> simp
theorem jl_le (C : Cfg) (j : Nat) : (joinedL C).getD j 0 ≤ j := by
  unfold joinedL
  simp only [List.getD_eq_getElem?_getD, List.getElem?_map]
  by_cases h : j < (nodesI C.W C.H C.T).toNat
  · rw [List.getElem?_range h]
    exact (joinAll_ends _ _ _).le j
  · rw [List.getElem?_eq_none (by simp; omega)]; simp
/-- the answer so far: the first k nodes are told their wires -/
def mixL (C : Cfg) (k : Nat) : List Int := (driversL C).take k ++ (labI C).drop k

theorem mixL_zero (C : Cfg) : mixL C 0 = labI C := by simp [mixL]
theorem drv_length (C : Cfg) : (driversL C).length = (labI C).length := by simp [driversL, labI]
theorem mixL_full (C : Cfg) : mixL C (labI C).length = driversL C := by
  unfold mixL
  rw [← drv_length C, List.take_length, drv_length C, List.drop_length, List.append_nil]
theorem mixL_length (C : Cfg) {k : Nat} (hk : k ≤ (labI C).length) : (mixL C k).length = (labI C).length := by
  unfold mixL
  rw [List.length_append, List.length_take, List.length_drop, drv_length]
  omega
theorem mixL_getD (C : Cfg) {k : Nat} (hk : k < (labI C).length) : (mixL C k).getD k 0 = ((joinedL C).getD k 0 : Int) := by
  rw [← labI_getD]
  unfold mixL
  have hl : ((driversL C).take k).length = k := by rw [List.length_take, drv_length]; omega
  rw [List.getD_eq_getElem?_getD, List.getD_eq_getElem?_getD, List.getElem?_append_right (by omega), hl, Nat.sub_self, List.getElem?_drop, Nat.add_zero]
theorem mixL_next (C : Cfg) {k : Nat} (hk : k < (labI C).length) : (mixL C k).set k (whoseOf (labs C) ((joinedL C).getD k 0)) = mixL C (k + 1) := by
  have hl : ((driversL C).take k).length = k := by rw [List.length_take, drv_length]; omega
  have hkd : k < (driversL C).length := by rw [drv_length]; exact hk
  have hkj : k < (joinedL C).length := by simpa [labI] using hk
  have hv : (driversL C)[k] = whoseOf (labs C) ((joinedL C).getD k 0) := by
    simp [driversL, List.getD_eq_getElem?_getD, List.getElem?_eq_getElem hkj]
  unfold mixL
  rw [List.set_append_right _ _ (by omega), hl, Nat.sub_self, List.drop_eq_getElem_cons hk, List.set_cons_zero, List.take_succ_eq_append_getElem hkd, hv, List.append_assoc]
  rfl

theorem key_int : Keyed Tryz.prog 3 := int_keyed Tryz.underlying3
theorem zero_int (w : World) : (zeroValue 3).run Tryz.prog w = .ok (.int .i64 0) w := by kernel_rfl
def DRV (C : Cfg) (w : World) (R : Ending → World → Prop) : Prop :=
  Calls Tryz.prog 24 #[.agg #[.int .i64 C.W, .int .i64 C.H, .int .i64 C.T, .slice C.AT C.tiles.length C.cT, .slice C.AO C.on.length C.cO, .slice C.AI C.ins.length C.cI, .slice C.AU C.outs.length C.cU]] w R
/-- what Drivers leaves -/
def DrvOut (C : Cfg) (w : World) (e : Ending) (w' : World) : Prop :=
  Below w.heap.size w w' ∧ (¬ (labs C).Nodup → e = .returned (.tuple #[.slice none 0 0, .int .i64 320])) ∧
  ((labs C).Nodup → ∃ g N, e = .returned (.tuple #[.slice (some ⟨g, 0, none⟩) N N, .int .i64 0]) ∧ nodesI C.W C.H C.T = (N : Int) ∧ w.heap.size ≤ g ∧ w'.ownsRow g 3 1 (.slice (some ⟨g, 0, none⟩) N N) N (ints (driversL C)))

set_option maxRecDepth 100000 in
set_option maxHeartbeats 1000000 in
theorem drivers_no (C : Cfg) (w : World) (hin : C.In w) (hf : C.few) (h : ¬ C.ok) : DRV C w fun e w' => e = .returned (.tuple #[.slice none 0 0, .int .i64 1]) ∧ Below w.heap.size w w' := by
  unfold DRV
  have hb := joined_no C _ (hin.later (below_new w (.cells #[.int .i64 C.W, .int .i64 C.H, .int .i64 C.T, .slice C.AT C.tiles.length C.cT, .slice C.AO C.on.length C.cO, .slice C.AI C.ins.length C.cI, .slice C.AU C.outs.length C.cU] 28))) hf h
  unfold JND at hb
  have HB := Lib.hid hb
  have Q0 := below_new w (.cells #[.int .i64 C.W, .int .i64 C.H, .int .i64 C.T, .slice C.AT C.tiles.length C.cT, .slice C.AO C.on.length C.cO, .slice C.AI C.ins.length C.cI, .slice C.AU C.outs.length C.cU] 28)
  clear hb
  go_enter Tryz.func24, Tryz.ntmps24
  go_wp2_with fail
  refine (HB.out).mono ?_
  rintro e w1 ⟨rfl, hb1⟩
  have Q1 := below_then Q0 hb1
  clear hb1
  go_wp2_with fail
  go_ret2
  exact ⟨rfl, Q1⟩

set_option maxRecDepth 100000 in
set_option maxHeartbeats 4000000 in
theorem drivers_yes (C : Cfg) (w : World) (hin : C.In w) (hf : C.few) (h : C.ok) : DRV C w (DrvOut C w) := by
  unfold DRV
  have hj := fun (w' : World) (hb : Below w.heap.size w w') => joined_yes C w' (hin.later hb) hf h
  have he := fun (w' : World) (hb : Below w.heap.size w w') => ends_any C w' (hin.later hb) hf h
  simp only [JND] at hj
  simp only [ENDS] at he
  have HJ := Lib.hid hj
  have HE := Lib.hid he
  have hnb := nodes_bd h.1
  have hel : (endsL C).length ≤ 6000 := by rw [endsL_length]; have := hf.1; have := hf.2.2.1; omega
  have hei : ∀ k, k < (endsL C).length → 0 ≤ (endsL C).getD k 0 ∧ (endsL C).getD k 0 < nodesI C.W C.H C.T ∧ (labs C)[k]? = some ((joinedL C).getD ((endsL C).getD k 0).toNat 0) := by
    intro k hk
    have e : (endsL C).getD k 0 = (endsL C)[k] := by rw [List.getD_eq_getElem?_getD, List.getElem?_eq_getElem hk]; rfl
    have := ends_in h (List.getElem_mem hk)
    rw [e]
    exact ⟨this.1, this.2, by simp [labs, hk]⟩
  have HEI := Lib.hid hei
  have hll : (labs C).length = (endsL C).length := by simp [labs]
  have HLL := Lib.hid hll
  obtain ⟨R, hR⟩ : ∃ R, DrvOut C w = R := ⟨_, rfl⟩
  rw [hR]
  have HR := Lib.hid hR
  have hmm := @run_makeMap Tryz.prog
  have Q0 := below_new w (.cells #[.int .i64 C.W, .int .i64 C.H, .int .i64 C.T, .slice C.AT C.tiles.length C.cT, .slice C.AO C.on.length C.cO, .slice C.AI C.ins.length C.cI, .slice C.AU C.outs.length C.cU] 28)
  have B0 := Box7.new w C 28
  have HOK := Lib.hid h.1
  clear hj he hnb hei hll hR h hf hin
  go_enter Tryz.func24, Tryz.ntmps24
  go_wp2_with fail
  refine (HJ.out _ Q0).mono ?_
  rintro e w1 ⟨g, N, rfl, hN, hg, hb1, hown1⟩
  have HN := Lib.hid hN
  have hg0 : w.heap.size ≤ g := by have := hg; simp at this; omega
  have Q1 := below_then Q0 hb1
  have B1 := Box7.below B0 hb1
  have O1 := Lib.hid hown1
  clear hb1 hown1 hN B0 Q0 HJ hg
  obtain ⟨z1, k10, k11, k12, k13, k14, k15, k16⟩ := id B1
  go_wp2_with fail
  refine (HE.out _ Q1).mono ?_
  rintro e w2 ⟨AE, cE, rfl, hb2, hown2⟩
  have Q2 := Lib.hid (below_then Q1 hb2)
  have O2 := Lib.hid (own_keep O1.out hb2)
  have E2 := Lib.hid hown2
  have hg1 : g < w1.heap.size := (O1.out.lt g rfl).2
  clear hb2 hown2 Q1 B1 HE z1 k10 k11 k12 k13 k14 k15 k16 O1
  obtain ⟨n, hn⟩ : ∃ n, (endsL C).length = n := ⟨_, rfl⟩
  have HNL := Lib.hid hn
  rw [hn] at E2 hel
  simp only [hn]
  clear hn
  go_wp2_with fail
  have hlm : (labI C).length = N := by simp only [labI, List.length_map, joinedL, List.length_range]; rw [HN.out]; simp
  have hN2 : N ≤ 87040 := by have := nodes_bd HOK.out; rw [HN.out] at this; omega
  have D3 := Lib.hid (DW.mk (k := 0) (D := .map []) (B := w2.heap.size) (below_then Q2.out (below_new w2 (.map #[] 0))) (by rw [labI_ints]; exact O2.out.alloc _) (E2.out.alloc _) (World.ownsMap_made _ _ _ _) hg0 (by have := Q2.out.size; omega) (by have := (O2.out.lt g rfl).2; omega) (fun e => by have := (E2.out.lt _ e).2; omega) (fun e => by have := (E2.out.lt _ e).1; omega))
  have HLM := Lib.hid hlm
  clear hlm O2 E2 Q2
  generalize w2.heap.size = B at D3
  go_loopw [35] (fun i wx => ∃ (k : Nat) (D : DataW Unit), k ≤ n ∧ i = .int .i64 (k : Int) ∧ DW w wx g N (labI C) AE n cE w1.heap.size (endsL C) B k D ∧ Whose (labs C) k D ∧ ((labs C).take k).Nodup) (fun i _ => n - (intOf i).toNat)
  case atStart => exact ⟨0, _, by omega, rfl, D3.out, Whose.start _, by simp⟩
  case round =>
    clear D3
    obtain ⟨k, D, hk, rfl, hd, hw, hnd⟩ := hrel
    have HD := Lib.hid hd
    have HW := Lib.hid hw
    have HND := Lib.hid hnd
    clear hd hw hnd
    by_cases hlt : k < n
    · obtain ⟨ge, rfl, hce⟩ := own_cell HD.out.ends hlt
      obtain ⟨e1, e2, e3⟩ := HEI.out k (by rw [HNL.out]; exact hlt)
      rw [HN.out] at e2
      have HE3 := Lib.hid e3
      clear e3
      generalize (endsL C).getD k 0 = e at hce e1 e2 HE3
      obtain ⟨e, rfl⟩ : ∃ x : Nat, e = (x : Int) := ⟨e.toNat, by omega⟩
      have he : e < N := by omega
      clear e1 e2
      obtain ⟨c0, -⟩ := HD.out.cell he
      rw [labI_getD] at c0
      have hle := jl_le C e
      have he4 : (labs C)[k]? = some ((joinedL C).getD e 0) := by have := HE3.out; simpa using this
      have HE4 := Lib.hid he4
      clear he4
      clear HE3
      generalize (joinedL C).getD e 0 = m at c0 hle HE4
      have hwf : (Lit.int .i64 (m : Int)).wf = true := WalkArith.wf_i64 (by omega)
      have hwfk : (Lit.int .i64 (k : Int)).wf = true := WalkArith.wf_i64 (by omega)
      have hkey : keyOf Tryz.prog 3 (.int .i64 (m : Int)) = some (.int .i64 (m : Int)) := keyOf_int_mk Tryz.underlying3 hwf
      have HK := Lib.hid hkey
      have HWK := Lib.hid hwfk
      have hmap := Lib.hid HD.out.map
      have hhas := HW.out.has m
      clear hkey hwf hwfk
      by_cases hin : m ∈ (labs C).take k
      · have hh : Maps.has D (.int .i64 (m : Int)) = true := by rw [hhas]; simpa using hin
        have hnn : ¬ (labs C).Nodup := by
          intro hx
          have hkl : k < (labs C).length := (List.getElem?_eq_some_iff.1 HE4.out).1
          have hkv : (labs C)[k] = m := (List.getElem?_eq_some_iff.1 HE4.out).2
          obtain ⟨w', hw', hv⟩ := List.mem_iff_getElem.1 hin
          have hwk : w' < k := by rw [List.length_take] at hw'; omega
          rw [List.getElem_take] at hv
          exact List.pairwise_iff_getElem.1 hx w' k (by omega) hkl hwk (by rw [hv, hkv])
        have hend : DrvOut C w (.returned (.tuple #[.slice none 0 0, .int .i64 320])) wr := ⟨HD.out.below, fun _ => rfl, fun hx => absurd hx hnn⟩
        rw [HR.out] at hend
        have HEND := Lib.hid hend
        clear hhas hin hnn hend
        go_wp2_with (at_lookup; refine wpList_lookup_own_ok_int _ rfl _ _ 98 rfl 3 3 .i64 key_int Tryz.underlying98 Tryz.underlying3 (zero_int _) B k D rfl hmap.out _ _ rfl HK.out ?_; intro c hat hwc)
        all_goals exact HEND.out
      · have hh : Maps.has D (.int .i64 (m : Int)) = false := by rw [hhas]; simpa using hin
        have hnx := HW.out.next HE4.out hin
        have hnd2 : ((labs C).take (k + 1)).Nodup := by
          have hkl : k < (labs C).length := (List.getElem?_eq_some_iff.1 HE4.out).1
          have hkv : (labs C)[k] = m := (List.getElem?_eq_some_iff.1 HE4.out).2
          rw [List.take_succ_eq_append_getElem hkl, hkv]
          exact List.nodup_append.2 ⟨HND.out, by simp, fun a ha b hb => by simp at hb; subst hb; rintro rfl; exact hin ha⟩
        have HNX := Lib.hid hnx
        have HND2 := Lib.hid hnd2
        clear hhas hin hnx hnd2
        go_wp2_with (first
          | (at_lookup; refine wpList_lookup_own_ok_int _ rfl _ _ 98 rfl 3 3 .i64 key_int Tryz.underlying98 Tryz.underlying3 (zero_int _) B k D rfl hmap.out _ _ rfl HK.out ?_; intro c hat hwc)
          | (at_mapUpdate; refine wpList_mapUpdate_own _ rfl _ _ _ 98 rfl 3 3 key_int Tryz.underlying98 _ B k D rfl hmap.out (by unfold maxLen; omega) _ _ _ rfl rfl HK.out _ [] (plainElem_int Tryz.underlying3 HWK.out) ?_; intro w4 hown4 hgrow4))
        go_roundw
        case rel => exact ⟨k + 1, _, by omega, by go_num, HD.out.put hown4 hgrow4, HNX.out, HND2.out⟩
        case measure => simp [intOf]; omega
    · obtain rfl : k = n := by omega
      have hll2 : (labs C).length = k := by rw [HLL.out, HNL.out]
      have hndf : (labs C).Nodup := by have := HND.out; rwa [List.take_of_length_le (by omega)] at this
      have HLL2 := Lib.hid hll2
      have HNF := Lib.hid hndf
      have hd0 : DW w wr g N (mixL C 0) AE k cE w1.heap.size (endsL C) B k D := by rw [mixL_zero]; exact HD.out
      have HD0 := Lib.hid hd0
      clear hll2 hndf hd0
      go_wp2_with fail
      go_loopw [59] (fun i wx => ∃ q : Nat, q ≤ N ∧ i = .int .i64 (q : Int) ∧ DW w wx g N (mixL C q) AE k cE w1.heap.size (endsL C) B k D) (fun i _ => N - (intOf i).toNat)
      case atStart => exact ⟨0, by omega, rfl, HD0.out⟩
      case round =>
        clear HD HD0
        obtain ⟨q, hq, rfl, hd⟩ := hrel
        have HD := Lib.hid hd
        clear hd
        by_cases hql : q < N
        · have hqj : q < (labI C).length := by rw [HLM.out]; exact hql
          obtain ⟨c0, f0⟩ := HD.out.cell hql
          rw [mixL_getD C hqj] at c0
          have hle := jl_le C q
          have D1 := Lib.hid (HD.out.store q (-1))
          obtain ⟨c1, f1⟩ := D1.out.cell hql
          have htell := fun (c : Int) => HW.out.tells HLL2.out HNF.out ((joinedL C).getD q 0) (c := c)
          have hnext := mixL_next C hqj
          have HT := Lib.hid htell
          have HNX := Lib.hid hnext
          clear htell hnext
          generalize (joinedL C).getD q 0 = m at c0 hle HT HNX
          generalize (((mixL C q).set q (-1)).getD q 0) = u1 at c1
          have hwf : (Lit.int .i64 (m : Int)).wf = true := WalkArith.wf_i64 (by omega)
          have hkey : keyOf Tryz.prog 3 (.int .i64 (m : Int)) = some (.int .i64 (m : Int)) := keyOf_int_mk Tryz.underlying3 hwf
          have HK := Lib.hid hkey
          have hmap := Lib.hid D1.out.map
          clear hkey hwf
          cases hh : Maps.has D (.int .i64 (m : Int)) with
          | true =>
            go_wp2_with (at_lookup; refine wpList_lookup_own_ok_int _ rfl _ _ 98 rfl 3 3 .i64 key_int Tryz.underlying98 Tryz.underlying3 (zero_int _) B k D rfl hmap.out _ _ rfl HK.out ?_; intro c hat hwc)
            have hwho := (HT.out c hat).1 hh
            have HWH := Lib.hid hwho
            clear hat hwho
            try go_wp2_with fail
            go_roundw
            case rel => exact ⟨q + 1, by omega, by go_num, by have := D1.out.store q c; rw [List.set_set, ← HWH.out, HNX.out, HWH.out] at this; exact this⟩
            case measure => simp [intOf]; omega
          | false =>
            go_wp2_with (at_lookup; refine wpList_lookup_own_ok_int _ rfl _ _ 98 rfl 3 3 .i64 key_int Tryz.underlying98 Tryz.underlying3 (zero_int _) B k D rfl hmap.out _ _ rfl HK.out ?_; intro c hat hwc)
            have hwho := (HT.out c hat).2 hh
            have HWH := Lib.hid hwho
            clear hat hwho
            try go_wp2_with fail
            go_roundw
            case rel => exact ⟨q + 1, by omega, by go_num, by have := D1.out; rw [← HWH.out, HNX.out, HWH.out] at this; exact this⟩
            case measure => simp [intOf]; omega
        · obtain rfl : q = N := by omega
          have hfin : mixL C q = driversL C := by rw [← HLM.out]; exact mixL_full C
          have hend : DrvOut C w (.returned (.tuple #[.slice (some ⟨g, 0, none⟩) q q, .int .i64 0])) wr :=
            ⟨HD.out.below, fun hx => absurd HNF.out hx, fun _ => ⟨g, q, rfl, HN.out, hg0, by rw [← hfin]; exact HD.out.row⟩⟩
          rw [HR.out] at hend
          have HEND := Lib.hid hend
          clear hend hfin
          go_wp2_with fail
          exact HEND.out
end Go.Proofs.YtoloaecbfglaeaaGreat
