/- slices.Max of numbers. · filigree/aig.Levels: how deep each node of gates is. · filigree/lutmap.Levels. -/
import Derived.Test.YtaajnmggbhnndaaGreatDoorZLVals
import Derived.Test.YtaajnmggbhnndaaGreatDoorZAig
import Derived.Test.YtaajnmggbhnndaaGreatDoorZRTbl
import Derived.Test.YtaajnmggbhnndaaGreatDoorZNet
import Derived.Test.YtaajnmggbhnndaaGreatDoorZLRun
namespace Go.Proofs.YtaajnmggbhnndaaGreatDoor
open Go.RowKit Go.Shelf
set_option linter.unusedVariables false
set_option linter.unusedSimpArgs false
/-- the greatest of the first numbers -/
def maxTo (l : List Int) : Nat → Int
  | 0 => l.getD 0 0
  | k + 1 => max (maxTo l k) (l.getD k 0)
theorem maxTo_ge (l : List Int) : ∀ k i, i < k → l.getD i 0 ≤ maxTo l k
  | 0, i, h => absurd h (Nat.not_lt_zero _)
  | k + 1, i, h => by
    rcases Nat.lt_succ_iff_lt_or_eq.1 h with h1 | rfl
    · have := maxTo_ge l k i h1; rw [maxTo]; omega
    · rw [maxTo]; omega
theorem maxTo_mem (l : List Int) : ∀ k, ∃ i, i ≤ k - 1 ∧ maxTo l k = l.getD i 0
  | 0 => ⟨0, Nat.le_refl _, rfl⟩
  | k + 1 => by
    obtain ⟨i, hi, e⟩ := maxTo_mem l k
    rw [maxTo]
    by_cases h : maxTo l k ≤ l.getD k 0
    · exact ⟨k, by omega, by omega⟩
    · exact ⟨i, by omega, by omega⟩
theorem lvMax_nn (d : List Int) : ∀ l, 0 ≤ lvMax d l
  | [] => by rw [lvMax]; exact Int.le_refl _
  | x :: l => by have := lvMax_nn d l; rw [lvMax]; omega
theorem lvMax_ge (d : List Int) : ∀ (l : List Int) (x : Int), x ∈ l → d.getD x.toNat 0 ≤ lvMax d l
  | [], x, h => by cases h
  | y :: l, x, h => by
    rw [lvMax]
    rcases List.mem_cons.1 h with rfl | h1
    · omega
    · have := lvMax_ge d l x h1; omega
theorem lvMax_mem (d : List Int) : ∀ l : List Int, lvMax d l = 0 ∨ ∃ x ∈ l, lvMax d l = d.getD x.toNat 0
  | [] => .inl rfl
  | y :: l => by
    rw [lvMax]
    by_cases h : d.getD y.toNat 0 ≤ lvMax d l
    · rw [show max (d.getD y.toNat 0) (lvMax d l) = lvMax d l by omega]
      rcases lvMax_mem d l with h1 | ⟨x, hx, e⟩
      · exact .inl h1
      · exact .inr ⟨x, List.mem_cons_of_mem _ hx, e⟩
    · exact .inr ⟨y, List.mem_cons_self, by omega⟩
theorem maxTo_lv (d l : List Int) : maxTo (pickI d l ++ [0]) (l.length + 1) = lvMax d l := by
  have hg : ∀ i, i < l.length → (pickI d l ++ [0]).getD i 0 = d.getD (l.getD i 0).toNat 0 := fun i hi => by
    have h1 : i < (pickI d l).length := by unfold pickI; rw [List.length_map]; exact hi
    rw [List.getD_eq_getElem?_getD, List.getElem?_append_left h1]
    unfold pickI
    rw [List.getElem?_map, List.getElem?_eq_getElem hi, List.getD_eq_getElem?_getD (l := l), List.getElem?_eq_getElem hi]
    rfl
  have h0 : (pickI d l ++ [0]).getD l.length 0 = 0 := by
    rw [List.getD_eq_getElem?_getD, List.getElem?_append_right (by unfold pickI; rw [List.length_map]; exact Nat.le_refl _)]
    unfold pickI; rw [List.length_map, Nat.sub_self]; rfl
  refine Int.le_antisymm ?_ ?_
  · obtain ⟨i, hi, e⟩ := maxTo_mem (pickI d l ++ [0]) (l.length + 1)
    rw [e]
    by_cases h : i < l.length
    · rw [hg i h]
      refine lvMax_ge d l _ ?_
      rw [List.getD_eq_getElem?_getD, List.getElem?_eq_getElem h]; exact List.getElem_mem h
    · rw [show i = l.length by omega, h0]; exact lvMax_nn d l
  · rcases lvMax_mem d l with h | ⟨x, hx, e⟩
    · have h1 := maxTo_ge (pickI d l ++ [0]) (l.length + 1) l.length (by omega)
      rw [h0] at h1; rw [h]; exact h1
    · obtain ⟨i, hi, rfl⟩ := List.mem_iff_getElem.1 hx
      have := maxTo_ge (pickI d l ++ [0]) (l.length + 1) i (by omega)
      rw [hg i hi, List.getD_eq_getElem?_getD (l := l), List.getElem?_eq_getElem hi] at this
      rw [e]; exact this
set_option maxRecDepth 100000 in
set_option maxHeartbeats 1000000 in
theorem maxI_any (A : Option Addr) (n c : Nat) (l : List Int) (w : World) (hv : Rd w 1 A n c (ints l)) (hl : l.length = n) (hn : 1 ≤ n) (hn2 : n ≤ 100000) :
    Calls Tryz.prog 27 #[.slice A n c] w fun r w' => r = .returned (.int .i64 (maxTo l n)) ∧ Below w.heap.size w w' := by
  have HV := Lib.hid hv
  have HL := Lib.hid hl
  obtain ⟨a, hA, hab, d0⟩ := hv.int (k := 0) (by omega)
  have hx : ¬ (n : Int) < 1 := by omega
  have h0n : (0 : Int) < (n : Int) := by omega
  rw [hA] at HV
  have e1 : maxTo l 1 = l.getD 0 0 := by rw [maxTo, maxTo]; omega
  have HE1 := Lib.hid e1
  have d0 : w.cell? a = some (.int .i64 (l.getD 0 0)) := d0
  clear hv hl e1
  subst hA
  generalize l.getD 0 0 = x0 at d0 HE1
  go_enter Tryz.func27, Tryz.ntmps27
  go_wp2_with fail
  go_loopw [3, 4] (fun v3 v4 wx => ∃ i : Nat, 1 ≤ i ∧ i ≤ n ∧ v3 = .int .i64 (maxTo l i) ∧ v4 = .int .i64 (i : Int) ∧ Below w.heap.size w wx) (fun _ v4 _ => n - (intOf v4).toNat)
  case atStart => exact ⟨1, Nat.le_refl _, hn, by rw [HE1.out], rfl, Below.refl _ _⟩
  case round =>
    obtain ⟨i, hi1, hi, rfl, rfl, hB⟩ := hrel
    have B1 := Lib.hid hB
    clear hB d0
    by_cases hin : i < n
    case neg =>
      obtain rfl : i = n := by omega
      have hlt : ¬ (i : Int) < (i : Int) := by omega
      go_wp2_with fail
      go_ret
      exact ⟨rfl, B1.out⟩
    have hin' : (i : Int) < (n : Int) := by omega
    obtain ⟨a', hA', hab', d0⟩ := (HV.out.later B1.out).int (k := i) hin
    obtain rfl := Option.some.inj hA'
    have HNX := Lib.hid (show maxTo l (i + 1) = max (maxTo l i) (l.getD i 0) from rfl)
    clear hA'
    generalize l.getD i 0 = y at d0 HNX
    generalize maxTo l i = x at HNX ⊢
    go_wp2_with fail
    go_roundw
    case rel => exact ⟨i + 1, by omega, by omega, by rw [HNX.out], by go_num, B1.out⟩
    case measure => simp [intOf]; omega
end Go.Proofs.YtaajnmggbhnndaaGreatDoor

namespace Go.Proofs.YtaajnmggbhnndaaGreatDoor
open Go.RowKit
set_option linter.unusedVariables false
set_option linter.unusedSimpArgs false
/-- the levels of the nodes ahead of gate i -/
def AG.levTo (G : AG) : Nat → List Int
  | 0 => List.replicate G.fst 0
  | i + 1 => G.levTo i ++ [1 + max ((G.levTo i).getD ((G.ands.getD i (0, 0)).1 / 2) 0) ((G.levTo i).getD ((G.ands.getD i (0, 0)).2 / 2) 0)]
theorem AG.levTo_len (G : AG) : ∀ i, (G.levTo i).length = G.fst + i
  | 0 => by simp [AG.levTo]
  | i + 1 => by simp [AG.levTo, G.levTo_len i]; omega
theorem AG.levTo_pre (G : AG) {j : Nat} : ∀ {i : Nat}, j ≤ i → ∀ x, x < G.fst + j → (G.levTo i).getD x 0 = (G.levTo j).getD x 0
  | 0, h, x, hx => by obtain rfl : j = 0 := by omega
                      rfl
  | i + 1, h, x, hx => by
    rcases Nat.lt_or_ge j (i + 1) with h1 | h1
    · rw [← G.levTo_pre (show j ≤ i by omega) x hx]
      exact getD_left _ _ _ (by rw [G.levTo_len]; omega)
    · obtain rfl : j = i + 1 := by omega
      rfl
/-- a node's level -/
def AG.lev (G : AG) (j : Nat) : Int := (G.levTo G.an.length).getD j 0
theorem AG.levTo_bound (G : AG) : ∀ i x, 0 ≤ (G.levTo i).getD x 0 ∧ (G.levTo i).getD x 0 ≤ (i : Int)
  | 0, x => by
    have : (G.levTo 0).getD x 0 = 0 := by
      simp only [AG.levTo, List.getD_eq_getElem?_getD, List.getElem?_replicate]
      split <;> rfl
    omega
  | i + 1, x => by
    have h1 := G.levTo_bound i ((G.ands.getD i (0, 0)).1 / 2)
    have h2 := G.levTo_bound i ((G.ands.getD i (0, 0)).2 / 2)
    rcases Nat.lt_or_ge x (G.levTo i).length with h | h
    · have h3 := G.levTo_bound i x
      have : (G.levTo (i + 1)).getD x 0 = (G.levTo i).getD x 0 := getD_left _ _ _ h
      omega
    · rcases Nat.eq_or_lt_of_le h with h | h
      · have : (G.levTo (i + 1)).getD x 0 = 1 + max ((G.levTo i).getD ((G.ands.getD i (0, 0)).1 / 2) 0) ((G.levTo i).getD ((G.ands.getD i (0, 0)).2 / 2) 0) := by
          rw [AG.levTo, List.getD_eq_getElem?_getD, List.getElem?_append_right (by omega), h, Nat.sub_self]; rfl
        omega
      · have : (G.levTo (i + 1)).getD x 0 = 0 := by
          rw [List.getD_eq_getElem?_getD, List.getElem?_eq_none (by rw [G.levTo_len] at h ⊢; omega)]; rfl
        omega
theorem AG.lev_gate {G : AG} (hok : G.ok) (i a b : Nat) (hg : G.ands[i]? = some (a, b)) : G.lev (G.fst + i) = max (G.lev (a / 2)) (G.lev (b / 2)) + 1 := by
  have hi : i < G.an.length := by
    have := (List.getElem?_eq_some_iff.1 hg).1
    simpa [AG.ands] using this
  obtain ⟨a', b', -, hgs, ha, hb, -, -⟩ := hok.gate hi
  rw [hg] at hgs
  obtain ⟨rfl, rfl⟩ := Prod.mk.inj (Option.some.inj hgs)
  unfold AG.lev
  rw [G.levTo_pre (show i + 1 ≤ G.an.length by omega) _ (by omega), G.levTo_pre (show i ≤ G.an.length by omega) _ ha, G.levTo_pre (show i ≤ G.an.length by omega) _ hb]
  have e : G.ands.getD i (0, 0) = (a, b) := by rw [List.getD_eq_getElem?_getD, hg]; rfl
  rw [AG.levTo, List.getD_eq_getElem?_getD, List.getElem?_append_right (by rw [G.levTo_len]; exact Nat.le_refl _), G.levTo_len, Nat.sub_self, e]
  show 1 + max ((G.levTo i).getD (a / 2) 0) ((G.levTo i).getD (b / 2) 0) = _
  omega
theorem int_cells (n : Int) : (Value.int .i64 n).cells = #[.int .i64 n] := rfl
/-- a row is made, with room behind it -/
theorem wpList_make_part {P : Program} (w : World) {ops : Array Oper} {rest : List Oper} {o : Oper} {a : Act} {Q : Exit → Act → World → Prop}
    (hg : o.guard = none) (l c : Operand) (t : TypeId) (hop : o.op = Op.makeSlice t l c) (e : TypeId) (i : TypeInfo) (z : Value) (h1 : P.underlying t = some (.slice e)) (h2 : P.info? e = some i) (h3 : i.zero = some z) (h4 : i.size = 1) (hz : z.cells = #[z])
    (kl kc : IntKind) (L C : Int) (n m : Nat) (hl : a.eval l = .int kl L) (hc : a.eval c = .int kc C) (hL : L = (n : Int)) (hC : C = (m : Int)) (hnm : n ≤ m) (b2 : i.bytes * m ≤ 281474976710656) (b3 : m ≤ 100000000)
    (hK : ∀ w', w'.ownsRow w.heap.size e 1 (.slice (some ⟨w.heap.size, 0, none⟩) n m) n (List.replicate n z) → Below w.heap.size w w' → wpList P ops Q rest (a.put o.dst (.slice (some ⟨w.heap.size, 0, none⟩) n m)) w') :
    wpList P ops Q (o :: rest) a w := by
  refine wpList_plain hg fun K hK' => ?_
  subst hL
  subst hC
  have hrun := run_make (P := P) w t e i z h1 h2 h3 kl kc (n : Int) (m : Int) (by omega) (by omega) (by rw [← Int.natCast_mul]; omega) (by omega)
  unfold Oper.wp
  simp [execOp, hop, hl, hc, hrun, Result.andThen, h4, hz]
  refine hK' _ _ (hK _ ?_ (below_new w _))
  rw [made_eq]
  refine ⟨by simp, .inr ⟨w.heap.size, m, (List.replicate m z).toArray, rfl, Nat.le_refl _, heap_alloc_new w _, hnm, by unfold maxLen; omega, by simp, ?_⟩⟩
  simp [Nat.min_eq_left hnm]
end Go.Proofs.YtaajnmggbhnndaaGreatDoor

namespace Go.Proofs.YtaajnmggbhnndaaGreatDoor
open Go.RowKit Go.Shelf
set_option linter.unusedVariables false
set_option linter.unusedSimpArgs false
theorem lvMax_le (d : List Int) (b : Int) (hb : 0 ≤ b) (h : ∀ j, d.getD j 0 ≤ b) (l : List Int) : lvMax d l ≤ b := by
  rcases lvMax_mem d l with e | ⟨x, _, e⟩
  · omega
  · rw [e]; exact h _
theorem nlTo_bound (ls : List PC) (f : Nat) : ∀ i j, 0 ≤ (nlTo ls f i).getD j 0 ∧ (nlTo ls f i).getD j 0 ≤ (i : Int)
  | 0, j => by
    rw [nlTo, List.getD_eq_getElem?_getD]
    by_cases h : j < f
    · rw [List.getElem?_eq_getElem (by rw [List.length_replicate]; exact h), List.getElem_replicate]; exact ⟨Int.le_refl _, Int.le_refl _⟩
    · rw [List.getElem?_eq_none (by rw [List.length_replicate]; omega)]; exact ⟨Int.le_refl _, Int.le_refl _⟩
  | i + 1, j => by
    have ih := nlTo_bound ls f i
    have h1 := lvMax_nn (nlTo ls f i) (ls.getD i ([], 0)).1
    have h2 := lvMax_le (nlTo ls f i) (i : Int) (by omega) (fun j => (ih j).2) (ls.getD i ([], 0)).1
    rw [nlTo, List.getD_eq_getElem?_getD]
    by_cases h : j < (nlTo ls f i).length
    · rw [List.getElem?_append_left h, ← List.getD_eq_getElem?_getD]
      have := ih j; omega
    · rw [List.getElem?_append_right (by omega)]
      by_cases h3 : j - (nlTo ls f i).length = 0
      · rw [h3]; simp only [List.getElem?_cons_zero, Option.getD_some]; omega
      · rw [List.getElem?_eq_none (by simp; omega)]; simp only [Option.getD_none]; omega
theorem nlTo_next (ls : List PC) (f : Nat) {i : Nat} (h : i < ls.length) : nlTo ls f (i + 1) = nlTo ls f i ++ [1 + lvMax (nlTo ls f i) ls[i].1] := by
  have e : ls.getD i ([], 0) = ls[i] := by rw [List.getD_eq_getElem?_getD, List.getElem?_eq_getElem h]; rfl
  rw [nlTo, e]
def NT.levV (N : NT) : List Int := if N.chk 6 = 0 then nlTo N.luts (1 + N.I.toNat + N.hs.length) N.ls.length else []
def LevOut (N : NT) (w : World) (r : Ending) (w' : World) : Prop :=
  ∃ A c, r = .returned (.tuple #[.slice A N.levV.length c, .int .i64 (N.chk 6)]) ∧ Below w.heap.size w w' ∧ Rd w' 1 A N.levV.length c (ints N.levV)
set_option maxRecDepth 100000 in
set_option maxHeartbeats 4000000 in
theorem llevels_any (N : NT) (w : World) (hin : N.In w) (hf : N.fit) (hwf : N.wf) :
    Calls Tryz.prog 12 #[.agg #[.int .i64 N.I, .slice N.AH N.hs.length N.cH, .slice N.AL N.ls.length N.cL, .slice N.AO N.ou.length N.cO]] w (LevOut N w) := by
  have Q0 := Lib.hid (below_new w (.cells #[.int .i64 N.I, .slice N.AH N.hs.length N.cH, .slice N.AL N.ls.length N.cL, .slice N.AO N.ou.length N.cO] 32))
  have X0 := Lib.hid (Blk.made w 32 #[.int .i64 N.I, .slice N.AH N.hs.length N.cH, .slice N.AL N.ls.length N.cL, .slice N.AO N.ou.length N.cO])
  have HC := Lib.hid (lcheck_any N 6 (w.alloc (.cells #[.int .i64 N.I, .slice N.AH N.hs.length N.cH, .slice N.AL N.ls.length N.cL, .slice N.AO N.ou.length N.cO] 32)) (hin.later Q0.out) hf hwf)
  have k0 := X0.out.cell 0
  have k1 := X0.out.cell 1
  have k2 := X0.out.cell 2
  have k3 := X0.out.cell 3
  by_cases hc : N.chk 6 = 0
  case neg =>
    have hV : N.levV = [] := if_neg hc
    unfold LevOut
    rw [hV]
    clear hin hf hwf hV
    generalize N.chk 6 = e at HC hc ⊢
    have hd : (e != 0) = true := by rw [bne_iff_ne]; exact hc
    go_enter Tryz.func12, Tryz.ntmps12
    go_wp2_with fail
    refine HC.out.mono ?_
    rintro e1 w2 ⟨rfl, hb2⟩
    have Q2 := Lib.hid (below_then Q0.out hb2)
    clear hb2
    go_wp2_with fail
    go_ret2
    exact ⟨none, 0, rfl, Q2.out, Rd.none0 _ _ _ _ (fun _ => rfl)⟩
  have hm := NT.chk_may.1 hc
  have hV : N.levV = nlTo N.luts (1 + N.I.toNat + N.hs.length) N.ls.length := if_pos hc
  have hsm := hm.small hf
  obtain ⟨I, hI⟩ : ∃ I : Nat, N.I = (I : Int) := ⟨N.I.toNat, by omega⟩
  have hI3 : I ≤ 1000 := by omega
  unfold LevOut
  rw [hV, hc]
  rw [hc] at HC
  rw [nlTo_len]
  obtain ⟨h, hh⟩ : ∃ h, N.hs.length = h := ⟨_, rfl⟩
  obtain ⟨n, hn⟩ : ∃ n, N.ls.length = n := ⟨_, rfl⟩
  have hh3 : h ≤ 1000 := by rw [← hh]; exact hf.hs
  have hn3 : n ≤ 1000 := by rw [← hn]; exact hf.ls
  have hII : N.I.toNat = I := by omega
  have hfst : N.fst = ((1 + I + h : Nat) : Int) := by unfold NT.fst; rw [hh, hI]; omega
  rw [hII, hh, hn]
  rw [hI] at HC X0 Q0 k0 k1 k2 k3 ⊢
  have HIN := Lib.hid hin
  have HWF := Lib.hid hwf
  have HM := Lib.hid hm
  have HH := Lib.hid hh
  have HN := Lib.hid hn
  have HI := Lib.hid hI
  have HFF := Lib.hid hfst
  rw [hh, hn] at HC X0 Q0 k0 k1 k2 k3
  clear hin hf hwf hc hm hV hsm hI hh hn hII hfst k0 k1 k2 k3
  have k0 := X0.out.cell 0
  have k1 := X0.out.cell 1
  have k2 := X0.out.cell 2
  have k3 := X0.out.cell 3
  go_enter Tryz.func12, Tryz.ntmps12
  go_wp2_with fail
  refine HC.out.mono ?_
  rintro e1 w2 ⟨rfl, hb2⟩
  have Q2 := Lib.hid (below_then Q0.out hb2)
  have X2 := Lib.hid (X0.out.keep hb2)
  clear hb2 k0 k1 k2 k3 HC
  have k0 := X2.out.cell 0
  have k1 := X2.out.cell 1
  obtain ⟨i0, hi0, hz0, hz1, hz2⟩ := info_parts int_info
  have HI0 := Lib.hid hi0
  have HZ0 := Lib.hid hz0
  have HZ1 := Lib.hid hz1
  have HZ2 := Lib.hid hz2
  clear hi0 hz0 hz1 hz2
  go_wp2_with ((with_reducible refine wpList_make_part _ rfl (.tmp 19) (.tmp 19) 24 rfl 3 i0 (.int .i64 0) Tryz.underlying24 HI0.out HZ0.out HZ1.out (int_cells 0) .i64 .i64 _ _ (1 + I + h) (1 + I + h) rfl rfl (by omega) (by omega) (Nat.le_refl _) ?c1 (by omega) ?_))
  case c1 => rw [HZ2.out]; omega
  intro w5 hown5 hb5
  have B5 := Lib.hid (below_then Q2.out hb5)
  have X5 := Lib.hid (X2.out.keep hb5)
  have O5 := Lib.hid (show w5.ownsRow w.heap.size 3 1 (.slice (some ⟨w2.heap.size, 0, none⟩) (1 + I + h) (1 + I + h)) (1 + I + h) (ints (nlTo N.luts (1 + I + h) 0)) from by
    have h' := own_down hown5 Q2.out.size
    rw [show ints (nlTo N.luts (1 + I + h) 0) = List.replicate (1 + I + h) (Value.int .i64 0) by simp [ints, nlTo]]
    exact h')
  clear hb5 hown5 k0 k1
  have k2 := X5.out.cell 2
  obtain ⟨F, hF⟩ : ∃ F, 1 + I + h = F := ⟨_, rfl⟩
  obtain ⟨AL, hAL⟩ : ∃ A, N.AL = A := ⟨_, rfl⟩
  have HAL := Lib.hid hAL
  rw [hAL] at k2
  have hF3 : F ≤ 2001 := by omega
  rw [hF] at HFF O5 ⊢
  have HFQ := Lib.hid hF
  clear hAL hF
  go_wp2_with fail
  go_loopw [5, 24] (fun v5 v24 wx => ∃ (i : Nat) (A : Option Addr) (c : Nat), i ≤ n ∧ v24 = .int .i64 (i : Int) ∧ v5 = .slice A (F + i) c ∧ wx.ownsRow w.heap.size 3 1 (.slice A (F + i) c) (F + i) (ints (nlTo N.luts F i)) ∧ Below w.heap.size w wx) (fun _ v24 _ => n - (intOf v24).toNat)
  case atStart => exact ⟨0, _, _, by omega, rfl, rfl, O5.out, B5.out⟩
  case round =>
    obtain ⟨i, A', c', hi, rfl, rfl, hown, hB⟩ := hrel
    have B6 := Lib.hid hB
    have O6 := Lib.hid hown
    clear hown hB
    by_cases hin : i < n
    case neg =>
      obtain rfl : i = n := by omega
      have hlt : ¬ (i : Int) < (i : Int) := by omega
      go_wp2_with fail
      go_ret2
      refine ⟨A', c', ?_, B6.out, ?_⟩
      · rw [HFQ.out]; rfl
      · rw [HFQ.out]; exact Rd.of_own O6.out
    have hin' : (i : Int) < (n : Int) := by omega
    have hia : i < N.ls.length := by rw [HN.out]; exact hin
    obtain ⟨pa, hPA, hpb, e0, e1, hsl⟩ := HIN.out.ls.at_ hia
    have hlut := lutB_len (HM.out.ok.1 i hia)
    have hnx := nlTo_next N.luts F (i := i) (by rw [N.luts_len]; exact hia)
    have hmx := lvMax_le (nlTo N.luts F i) (i : Int) (by omega) (fun j => (nlTo_bound N.luts F i j).2)
    rw [N.luts_at hia] at hnx
    rw [HAL.out] at hPA
    subst hPA
    generalize N.ls[i] = ci at e0 e1 hsl hlut hnx
    obtain ⟨⟨l1, l2, l3⟩, t⟩ := ci
    simp only [slv] at e0 e1 hsl hlut hnx
    obtain ⟨ga, hga⟩ : ∃ p, pa.add (i * 2) = p := ⟨_, rfl⟩
    have hgab : ga.block < w.heap.size := by rw [← hga, add_block]; exact hpb
    rw [hga] at e0 e1
    have e2 := (B6.out.cell hgab).trans e0
    have e3 := (B6.out.cell (p := ⟨ga.block, ga.off + 1, none⟩) hgab).trans e1
    have hmem : ∀ z ∈ l3, 0 ≤ z ∧ z < ((F + i : Nat) : Int) := fun z hz => by
      have := hlut.2.2 z hz
      rw [HFF.out] at this
      omega
    have hl36 : l3.length ≤ 6 := by omega
    have hml := maxTo_lv (nlTo N.luts F i) l3
    have hmx := hmx l3
    have hmn := lvMax_nn (nlTo N.luts F i) l3
    have hsz := B6.out.size
    have HSL := Lib.hid hsl
    obtain ⟨w7, hw7⟩ : ∃ w7, wr.alloc (.cells #[.slice l1 l3.length l2, .int .u64 (t : Int)] 41) = w7 := ⟨_, rfl⟩
    obtain ⟨gx, hgx⟩ : ∃ gx, wr.heap.size = gx := ⟨_, rfl⟩
    have Y7 := Lib.hid (show Blk w7 gx 41 #[.slice l1 l3.length l2, .int .u64 (t : Int)] by rw [← hw7, ← hgx]; exact Blk.made wr _ _)
    have B7 := Lib.hid (show Below w.heap.size w w7 by rw [← hw7]; exact below_then B6.out (below_new wr _))
    have O7 := Lib.hid (show w7.ownsRow w.heap.size 3 1 (.slice A' (F + i) c') (F + i) (ints (nlTo N.luts F i)) by rw [← hw7]; exact O6.out.alloc _)
    have HP := Lib.hid (pickI_any A' l1 (F + i) c' l2 (nlTo N.luts F i) l3 w7 (Rd.of_own O7.out) (Rd.later HSL.out B7.out) hmem (by omega))
    obtain ⟨bs, hbs⟩ : ∃ bs, pickI (nlTo N.luts F i) l3 = bs := ⟨_, rfl⟩
    have hbl : bs.length = l3.length := by rw [← hbs]; unfold pickI; rw [List.length_map]
    rw [hbs] at HP hml
    generalize lvMax (nlTo N.luts F i) l3 = mx at hml hmx hmn hnx
    obtain ⟨q, hq⟩ : ∃ q, l3.length = q := ⟨_, rfl⟩
    rw [hq] at HP Y7 hl36 e2 hw7 hbl hml
    have HBL := Lib.hid hbl
    have HML := Lib.hid hml
    have HNX := Lib.hid hnx
    clear e0 e1 hsl hlut hnx hmem hbs hbl hml hq
    have y0 := Y7.out.cell 0
    go_wp2_with fail
    refine HP.out.mono ?_
    rintro e w8 ⟨A8, c8, rfl, hb8, hown8⟩
    have B8 := Lib.hid (below_then B7.out hb8)
    have O8 := Lib.hid (own_keep O7.out hb8)
    have P8 := Lib.hid hown8
    have H8 := Lib.hid hb8
    have hs7 := B7.out.size
    have hs8 := hb8.size
    clear hb8 hown8 y0 HP e2 e3
    go_wp2_with (at_builtin; refine wpList_app_int rfl (.tmp 32) (.tmp 33) rfl w7.heap.size A8 q c8 bs rfl P8.out 0 rfl (by omega) (by omega) ?_)
    intro A9 c9 u9 hown9 hgr9
    have HB9 := Lib.hid ((below_then H8.out (below_new w8 _)).grown hgr9 (below_then H8.out (below_new w8 _)).size (fun q hq => own_base P8.out hq))
    have B9 := Lib.hid (below_then B7.out HB9.out)
    have O9 := Lib.hid (own_keep O7.out HB9.out)
    have HMX := Lib.hid (maxI_any A9 (q + 1) c9 (bs ++ [0]) u9 (Rd.of_own hown9) (by rw [List.length_append, HBL.out]; rfl) (by omega) (by omega))
    rw [HML.out] at HMX
    have hs9 := B9.out.size
    clear hown9 hgr9
    go_wp2_with fail
    refine HMX.out.mono ?_
    rintro e w10 ⟨rfl, hb10⟩
    have B10 := Lib.hid (below_then B9.out hb10)
    have O10 := Lib.hid (own_keep O9.out hb10)
    have hs10 := B10.out.size
    have hwr : IntKind.i64.wrap (1 + mx) = 1 + mx := IntWalk.i64_in _ (by omega)
    clear hb10
    go_wp2_with (at_builtin; refine wpList_app_int rfl (.tmp 28) (.tmp 37) rfl w.heap.size A' (F + i) c' (nlTo N.luts F i) rfl O10.out (1 + mx) rfl (by omega) (by omega) ?_)
    intro A11 c11 u11 hown11 hgr11
    have O11 := Lib.hid (show u11.ownsRow w.heap.size 3 1 (.slice A11 (F + (i + 1)) c11) (F + (i + 1)) (ints (nlTo N.luts F (i + 1))) from by rw [HNX.out]; exact hown11)
    have B11 := Lib.hid ((below_then B10.out (below_new w10 _)).grown hgr11 (below_then B10.out (below_new w10 _)).size (fun q hq => own_base O10.out hq))
    clear hown11 hgr11
    go_wp2_with fail
    go_roundw
    case rel => exact ⟨i + 1, A11, c11, by omega, by go_num, rfl, O11.out, B11.out⟩
    case measure => simp [intOf]; omega
end Go.Proofs.YtaajnmggbhnndaaGreatDoor
