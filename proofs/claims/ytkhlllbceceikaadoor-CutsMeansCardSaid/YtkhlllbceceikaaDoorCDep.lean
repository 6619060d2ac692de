/- cuts.depth; the sort of ranked sets. -/
import Derived.Test.YtkhlllbceceikaaDoorCptF
import Derived.Lib.OwnBridge
import Derived.Sort.LotA
namespace Go.Proofs.YtkhlllbceceikaaDoor
open Go.RowKit Go.Shelf Go.Lib Go.Sort
set_option linter.unusedVariables false
set_option linter.unusedSimpArgs false

set_option maxRecDepth 100000 in
set_option maxHeartbeats 2000000 in
theorem cdepth_any (D A : Option Addr) (cd c N : Nat) (d l : List Int) (w : World) (hd : DepIn w D cd N d) (hl : Rd w 1 A l.length c (ints l)) (hn : NodesIn N l) (hll : l.length ≤ 1000000) :
    Calls Tryd.prog 77 #[.slice D N cd, .slice A l.length c] w fun r w' => r = .returned (.int .i64 (Cut.deep d l)) ∧ Below w.heap.size w w' := by
  obtain ⟨r, hr⟩ : ∃ r, Cut.deep d l = r := ⟨_, rfl⟩
  have HR := Lib.hid hr
  rw [hr]
  have HD := Lib.hid hd
  have HL := Lib.hid hl
  have HN := Lib.hid hn
  obtain ⟨m, hm⟩ : ∃ n, l.length = n := ⟨_, rfl⟩
  have HM := Lib.hid hm
  rw [hm] at HL hll ⊢
  have HB := Lib.hid (fun k => Cut.deepTo_bound (d := d) (l := l) (M := 1000000) (by omega) hd.small k)
  clear hd hl hn hr hm
  go_enter Tryd.func77, Tryd.ntmps77
  go_wp2_with fail
  go_loopw [5, 10] (fun v5 v6 wx => ∃ k : Nat, k ≤ m ∧ v6 = .int .i64 (k : Int) ∧ v5 = .int .i64 (Cut.deepTo d l k) ∧ Below w.heap.size w wx) (fun _ v6 _ => m - (intOf v6).toNat)
  case atStart => exact ⟨0, by omega, rfl, rfl, Below.refl _ _⟩
  case round =>
    obtain ⟨k, hk, rfl, rfl, hbe⟩ := hrel
    have B3 := Lib.hid hbe
    clear hbe
    by_cases hlt : k < m
    case neg =>
      obtain rfl : k = m := by omega
      have hb := HB.out k
      have hr : Cut.deepTo d l k + 1 = r := by rw [← HR.out]; unfold Cut.deep; rw [HM.out]
      have HRR := Lib.hid hr
      generalize Cut.deepTo d l k = t at hb HRR
      obtain ⟨hb0, hb1⟩ := hb
      go_wp2_with fail
      go_ret
      exact ⟨by rw [← HRR.out]; rfl, B3.out⟩
    have hnod := HN.out _ (getD_mem (l := l) (k := k) (by rw [HM.out]; exact hlt))
    obtain ⟨x, hx⟩ : ∃ x : Nat, l.getD k 0 = (x : Int) := ⟨(l.getD k 0).toNat, by omega⟩
    obtain ⟨pa, hA, hab, d0⟩ := (HL.out.later B3.out).int (k := k) hlt
    obtain ⟨pd, hD, hdb, e0⟩ := (HD.out.rd.later B3.out).int (k := x) (by omega)
    have hst : Cut.deepTo d l (k + 1) = max (Cut.deepTo d l k) (d.getD x 0) := by simp only [Cut.deepTo, hx, Int.toNat_natCast]
    have HST := Lib.hid hst
    have hb := HB.out k
    have hxN : (x : Int) < (N : Int) := by omega
    have hkm : (k : Int) < (m : Int) := by omega
    rw [hx] at d0
    clear hst hnod hx
    subst hA
    subst hD
    generalize Cut.deepTo d l k = t at hb HST
    generalize d.getD x 0 = y at e0 HST
    obtain ⟨hb0, hb1⟩ := hb
    go_wp2_with fail
    go_roundw
    case rel => exact ⟨k + 1, by omega, by go_num, by rw [HST.out], B3.out⟩
    case measure => simp [intOf]; omega
/-- how ranked sets compare -/
def cmpR (x y : RK) : Int := Cut.cmpL (kof x) (kof y)
theorem cmpR_swo : SWO (ltOf cmpR) where
  irrefl x := by unfold ltOf cmpR; rw [(Cut.cmpL_eq _ _).2 rfl]; simp
  trans x y z h1 h2 := by
    unfold ltOf cmpR at *
    simp only [decide_eq_true_eq] at *
    exact (Cut.cmpL_trans _ _ _ (Int.le_of_lt h1) (Int.le_of_lt h2)).2 (.inl h1)
  ntrans x y z h1 h2 := by
    unfold ltOf cmpR at *
    simp only [decide_eq_false_iff_not] at *
    have s1 := Cut.cmpL_swap (kof x) (kof y)
    have s2 := Cut.cmpL_swap (kof y) (kof z)
    have s3 := Cut.cmpL_swap (kof x) (kof z)
    have := (Cut.cmpL_trans (kof z) (kof y) (kof x) (by omega) (by omega)).1
    omega
theorem cmpR_lays (blk off size : Nat) (w : World) : CmpLays Tryd.prog 79 #[] encR 9 cmpR blk off size w :=
  fun _ _ _ _ x y => (sets1_any _ _ _ _ _ _ _ _ _ _ _ _ _ _ _ _ (slv x.2) (slv y.2) _).mono fun e w' ⟨he, hw⟩ => ⟨he, 1, _, hw⟩
theorem rkC_at (xs : List RK) (t : Nat) (h : t < xs.length * 9) : (rkC xs)[t]? = some ((encR xs[t / 9]!)[t % 9]!) := by
  have e : t = t / 9 * 9 + t % 9 := by omega
  have h1 : t / 9 < xs.length := by omega
  have h2 := rkC_get xs (t / 9) (t % 9) h1 (Nat.mod_lt _ (by omega))
  rw [← e] at h2
  rw [h2, getElem!_pos xs (t / 9) h1]
  have h3 : t % 9 < (encR xs[t / 9]).length := by rw [encR_len]; exact Nat.mod_lt _ (by omega)
  rw [List.getElem?_eq_getElem h3]
  exact congrArg some (getElem!_pos (encR xs[t / 9]) (t % 9) h3).symm
theorem flat_rk (xs : List RK) : (flatK encR 9 xs.toArray).toList = rkC xs := by
  apply List.ext_getElem?
  intro t
  by_cases h : t < xs.length * 9
  · rw [rkC_at xs t h]
    have hs : t < (flatK encR 9 xs.toArray).size := by simpa using h
    rw [Array.getElem?_toList, Array.getElem?_eq_getElem hs]
    have := get_flatK encR 9 xs.toArray t (by simpa using h)
    rw [getElem!_pos _ t hs] at this
    rw [this]
    simp
  · have a : (flatK encR 9 xs.toArray).toList[t]? = none := List.getElem?_eq_none (by simp; omega)
    have b : (rkC xs)[t]? = none := List.getElem?_eq_none (by rw [rkC_length]; omega)
    rw [a, b]
theorem holds_ownR {w : World} {base g n cap : Nat} {e : TypeId} {xs : List RK} (h : w.ownsRow base e 9 (.slice (some ⟨g, 0, none⟩) n cap) n (rkC xs)) : HoldsK encR 9 w g 0 xs.toArray := by
  have hl : xs.length = n := by have := h.1; rw [rkC_length] at this; omega
  rcases h.2 with ⟨e0, _⟩ | ⟨g', cap', cur, e0, hb, hg, hn, hm, hs, ht⟩
  · cases e0
  · injection e0 with e1 _ e3
    injection e1 with e1
    injection e1 with e1
    subst e1; subst e3
    intro j hj
    have hj' : j < xs.length * 9 := by simpa using hj
    refine ⟨?_, by simp [World.frozen?, hg]⟩
    have e1 : (cur.toList.take (n * 9))[j]? = (rkC xs)[j]? := by rw [ht]
    rw [List.getElem?_take, if_pos (by omega), Array.getElem?_toList, rkC_at xs j hj'] at e1
    simp only [World.cell?, hg, Nat.zero_add]
    simp only [Option.isSome_none, Bool.false_eq_true, if_false]
    rw [e1, get_flatK encR 9 xs.toArray j (by simpa using hj')]
    simp
theorem own_sortedK {w : World} {base g n cap q sz : Nat} {e : TypeId} {cells : List Value} {ys : Array Value} {os : Array Obj} (h : w.ownsRow base e sz (.slice (some ⟨g, 0, none⟩) n cap) n cells) (hy : ys.size = n * sz) :
    (grow (putRow id (Sort.ahead w q) g 0 ys) os).ownsRow base e sz (.slice (some ⟨g, 0, none⟩) n cap) n ys.toList := by
  rcases h.2 with ⟨e0, _⟩ | ⟨g', cap', cur, e0, hb, hg, hn, hm, hs, ht⟩
  · cases e0
  · injection e0 with e1 _ e3
    injection e1 with e1
    injection e1 with e1
    subst e1; subst e3
    have hlt : g < w.heap.size := lt_of_block hg
    refine ⟨by simpa using hy, .inr ⟨g, cap, putCells id 0 ys cur, rfl, hb, ?_, hn, hm, by simpa [putCells] using hs, ?_⟩⟩
    · show ((w.heap.modify g (onCells (putCells id 0 ys))) ++ os)[g]? = _
      rw [Array.getElem?_append_left (by simpa using hlt), Array.getElem?_modify]
      simp [hg, onCells]
    · apply List.ext_getElem?
      intro j
      rw [List.getElem?_take, Array.getElem?_toList, Array.getElem?_toList]
      by_cases hj : j < n * sz
      · have hjc : j < cur.size := by have : n * sz ≤ cap * sz := Nat.mul_le_mul_right sz hn; omega
        simp only [if_pos hj, putCells, Array.getElem?_mapIdx, Array.getElem?_eq_getElem hjc, Option.map_some]
        rw [if_pos (by simp; omega), Array.getElem?_eq_getElem (by omega)]
        simp [getElem!_pos, show j < ys.size by omega]
      · simp [hj]; omega

theorem below_sortedK {B : Nat} {w0 w : World} {g q : Nat} {ys : Array Value} {os : Array Obj} (h : Below B w0 w) (hg : B ≤ g) (hB : B ≤ w.heap.size) : Below B w0 (grow (putRow id (Sort.ahead w q) g 0 ys) os) :=
  ⟨h.os, h.tape, h.output, by have := h.size; simp [grow, putRow, mapBlock, Sort.ahead]; omega, fun k hk => by
    rw [← h.block k hk]
    show ((w.heap.modify g (onCells (putCells id 0 ys))) ++ os)[k]? = _
    rw [Array.getElem?_append_left (by simp; omega), Array.getElem?_modify, if_neg (by omega)]⟩

theorem sortR_any (w : World) (base : Nat) (A : Option Addr) (n c : Nat) (L : List RK) (ho : w.ownsRow base 105 9 (.slice A n c) n (rkC L)) (hb : base ≤ w.heap.size) (hn : n ≤ 1000000) (h0 : 0 < n) :
    Calls Tryd.prog 78 #[.slice A n c, .func (.func 79) #[] #[]] w fun e w' => e = .returned (.tuple #[]) ∧ ∃ L' : List RK, w'.ownsRow base 105 9 (.slice A n c) n (rkC L') ∧ (∀ x, x ∈ L' ↔ x ∈ L) ∧ L'.length = n ∧ (∀ i j, i < j → j < L'.length → ltOf cmpR (L'.getD j default) (L'.getD i default) = false) ∧ Chg w w' (fun k => some k = blkOf A) := by
  have hl : L.length = n := by have := ho.1; rw [rkC_length] at this; omega
  · obtain ⟨g, cap, hv, hbase, hlt⟩ := ho.form h0
    injection hv with h1 h2 h3
    subst h1 h3
    have eg : ∀ args w, (callFunc 79 args).run Tryd.prog w = .ok (.enter 79 args) w := enters_of Tryd.func79 (by kernel_rfl) rfl
    have hcon := AnyQ.slices_SortFunc Tryd.sortRank 9 (fun _ => by kernel_rfl) (fun _ => by kernel_rfl) encR (fun _ => rfl) (fun x v hv => encR_one x v hv) cmpR cmpR_swo 79 #[] g 0 c L.toArray w eg (cmpR_lays _ _ _ _)
    have hcon := hcon (holds_ownR ho) hlt (by simp; omega)
    change Calls Tryd.prog 78 _ _ _ at hcon
    rw [List.size_toArray, hl] at hcon
    refine hcon.mono fun e w' ⟨he, d', q, os, hp, hs, hw⟩ => ?_
    subst hw
    obtain ⟨hsz0, -, hperm⟩ := hp
    have hsz : d'.size = n := by rw [hsz0]; simpa using hl
    have e1 : d'.extract 0 n = d' := by rw [← hsz]; exact Array.extract_size
    have e2 : L.toArray.extract 0 n = L.toArray := by rw [show n = L.toArray.size by simpa using hl.symm]; exact Array.extract_size
    rw [e1, e2] at hperm
    have hmem : ∀ x, x ∈ d'.toList ↔ x ∈ L := fun x => hperm.mem_iff
    have hgd : ∀ i, i < n → d'.toList.getD i default = d'[i]! := fun i hi => by
      rw [List.getD_eq_getElem?_getD, List.getElem?_eq_getElem (by simpa [hsz] using hi), getElem!_pos d' i (by rw [hsz]; exact hi)]
      simp
    refine ⟨he, d'.toList, ?_, hmem, by simpa using hsz, fun i j hij hj => ?_, ?_⟩
    · have h9 := own_sortedK (q := q) (os := os) (ys := flatK encR 9 d') ho (by simp [hsz])
      rw [show (flatK encR 9 d').toList = rkC d'.toList from by have := flat_rk d'.toList; simpa using this] at h9
      exact h9
    · have hj' : j < n := by simpa [hsz] using hj
      rw [hgd i (by omega), hgd j hj']
      exact hs i j (Nat.zero_le _) hij hj'
    · have hbs := below_sortedK (q := q) (os := os) (ys := flatK encR 9 d') (RowKit.Below.refl base w) hbase hb
      refine ⟨rfl, rfl, rfl, hbs.size, fun k hk hne => ?_⟩
      have hkg : g ≠ k := fun e => hne (by subst e; rfl)
      show ((w.heap.modify g (onCells (putCells id 0 (flatK encR 9 d')))) ++ os)[k]? = _
      rw [Array.getElem?_append_left (by simpa using hk), Array.getElem?_modify, if_neg hkg]
end Go.Proofs.YtkhlllbceceikaaDoor
