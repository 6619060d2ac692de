/- slices.IndexFunc, ContainsFunc at []int, by what the closure tells. · filigree/lutmap.Check: may a net be? · filigree/lutmap.Nodes, played, Eval. · filigree/lutmap.Run. -/
import Derived.Test.YtaajnmggbhnndaaGreatDoorZAig
import Derived.Test.YtaajnmggbhnndaaGreatDoorZLVals
import Derived.Laws.EntriesVeiled
import Derived.Deep.DeepCutAuto
namespace Go.Proofs.YtaajnmggbhnndaaGreatDoor
open Go.RowKit
set_option linter.unusedVariables false
set_option linter.unusedSimpArgs false
set_option maxRecDepth 100000 in
set_option maxHeartbeats 2000000 in
theorem indexI_any (F : FuncId) (hF : ∀ (args : Array Value) (w : World), (callFunc F args).run Tryz.prog w = .ok (.enter F args) w) (cap : Value) (bad : Int → Bool) (w : World) (A : Option Addr) (n c : Nat) (l : List Int) (hr : Rd w 1 A n c (ints l)) (hn : n ≤ 100000)
    (hcl : ∀ x ∈ l, ∀ W : World, Below w.heap.size w W → Calls Tryz.prog F #[.int .i64 x, cap] W fun r w' => r = .returned (.bool (bad x)) ∧ Below W.heap.size W w') :
    Calls Tryz.prog 44 #[.slice A n c, .func (.func F) #[] #[cap]] w (IndexA (l.any bad) w) := by
  have hl : n = l.length := by have := hr.len; rw [ints_length] at this; omega
  have HL := Lib.hid hl
  have HR := Lib.hid hr
  have HA := Lib.hid hcl
  clear hl hr hcl
  go_enter Tryz.func44, Tryz.ntmps44
  go_wp2_with fail
  go_loopw [8] (fun i wx => ∃ k : Nat, k ≤ n ∧ i = .int .i64 (k : Int) ∧ (l.take k).any bad = false ∧ Below w.heap.size w wx) (fun i _ => n - (intOf i).toNat)
  case atStart => exact ⟨0, by omega, rfl, by simp, Below.refl _ _⟩
  case round =>
    obtain ⟨k, hk, rfl, hno, hB⟩ := hrel
    have HN := Lib.hid hno
    have B1 := Lib.hid hB
    clear hno hB
    by_cases hlt : k < n
    · obtain ⟨a, rfl, hab, c0⟩ := (HR.out.later B1.out).int hlt
      have hk' : k < l.length := by rw [← HL.out]; exact hlt
      have hg : l.getD k 0 = l[k] := by rw [List.getD_eq_getElem?_getD, List.getElem?_eq_getElem hk']; rfl
      rw [hg] at c0
      have htk : (l.take (k + 1)).any bad = ((l.take k).any bad || bad l[k]) := by
        rw [List.take_succ_eq_append_getElem hk', List.any_append]; simp
      have hmem : bad l[k] = true → l.any bad = true := fun hx => List.any_eq_true.2 ⟨l[k], List.getElem_mem hk', hx⟩
      have HCL := Lib.hid (HA.out _ (List.getElem_mem hk') wr B1.out)
      have HT := Lib.hid htk
      have HM := Lib.hid hmem
      clear htk hmem hg
      generalize l[k] = t at c0 HT HM HCL
      go_wp2_with fail
      refine HCL.out.mono ?_
      rintro e w1 ⟨rfl, hb1⟩
      have B2 := Lib.hid (below_then B1.out hb1)
      clear hb1 HCL
      cases ho : bad t with
      | true =>
        go_wp2_with fail
        go_ret
        exact ⟨(k : Int), rfl, ⟨fun _ => HM.out ho, fun _ => by omega⟩, B2.out⟩
      | false =>
        go_wp2_with fail
        go_roundw
        case rel => exact ⟨k + 1, by omega, by go_num, by rw [HT.out, HN.out, ho]; rfl, B2.out⟩
        case measure => simp [intOf]; omega
    · obtain rfl : k = n := by omega
      go_wp2_with fail
      go_ret
      refine ⟨-1, rfl, ⟨fun h => absurd h (by omega), fun h => ?_⟩, B1.out⟩
      have := HN.out
      rw [List.take_of_length_le (by rw [← HL.out]; exact Nat.le_refl _)] at this
      rw [this] at h
      cases h
set_option maxRecDepth 100000 in
theorem containsI_any (F : FuncId) (hF : ∀ (args : Array Value) (w : World), (callFunc F args).run Tryz.prog w = .ok (.enter F args) w) (cap : Value) (bad : Int → Bool) (w : World) (A : Option Addr) (n c : Nat) (l : List Int) (hr : Rd w 1 A n c (ints l)) (hn : n ≤ 100000)
    (hcl : ∀ x ∈ l, ∀ W : World, Below w.heap.size w W → Calls Tryz.prog F #[.int .i64 x, cap] W fun r w' => r = .returned (.bool (bad x)) ∧ Below W.heap.size W w') :
    Calls Tryz.prog 30 #[.slice A n c, .func (.func F) #[] #[cap]] w fun r w' => r = .returned (.bool (l.any bad)) ∧ Below w.heap.size w w' := by
  have HX := Lib.hid (indexI_any F hF cap bad w A n c l hr hn hcl)
  obtain ⟨r, hr2⟩ : ∃ r, l.any bad = r := ⟨_, rfl⟩
  rw [hr2] at HX ⊢
  clear hr hcl hr2
  go_enter Tryz.func30, Tryz.ntmps30
  go_wp2_with fail
  refine HX.out.mono ?_
  rintro e w1 ⟨i, rfl, hx, hb1⟩
  have HI := Lib.hid hx
  have B1 := Lib.hid hb1
  clear hx hb1
  by_cases h0 : 0 ≤ i
  · have hd : decide (0 ≤ i) = true := decide_eq_true h0
    have HR := Lib.hid (HI.out.1 h0)
    go_wp2_with fail
    go_ret
    exact ⟨by rw [HR.out]; rfl, B1.out⟩
  · have hd : decide (0 ≤ i) = false := decide_eq_false h0
    have hr : r = false := by cases r with
      | false => rfl
      | true => exact absurd (HI.out.2 rfl) h0
    have HR := Lib.hid hr
    clear hr
    go_wp2_with fail
    go_ret
    exact ⟨by rw [HR.out]; rfl, B1.out⟩
end Go.Proofs.YtaajnmggbhnndaaGreatDoor

namespace Go.Proofs.YtaajnmggbhnndaaGreatDoor
open Go.RowKit Go.Shelf
set_option linter.unusedVariables false
set_option linter.unusedSimpArgs false
set_option maxRecDepth 100000 in
theorem chk1_any (g : Nat) (n x : Int) (w : World) (hg : w.cell? ⟨g, 0, none⟩ = some (.int .i64 n)) :
    Calls Tryz.prog 29 #[.int .i64 x, .pointer (some ⟨g, 0, none⟩)] w fun r w' => r = .returned (.bool (nodeB n x)) ∧ w = w' := by
  by_cases h0 : 0 ≤ x
  · have hd : decide (0 ≤ x) = true := decide_eq_true h0
    go_enter Tryz.func29, Tryz.ntmps29
    go_wp2_with fail
    go_ret
    exact ⟨by unfold nodeB; rw [hd]; simp, rfl⟩
  · have hd : decide (0 ≤ x) = false := decide_eq_false h0
    go_enter Tryz.func29, Tryz.ntmps29
    go_wp2_with fail
    go_ret
    exact ⟨by unfold nodeB; rw [hd]; simp, rfl⟩
/-- the closure's box: it holds the first closure, whose box holds n -/
def NodeBox (g g2 : Nat) (n : Int) (w : World) : Prop := w.cell? ⟨g, 0, none⟩ = some (.int .i64 n) ∧ w.cell? ⟨g2, 0, none⟩ = some (.func (.func 29) #[] #[.pointer (some ⟨g, 0, none⟩)])
set_option maxRecDepth 100000 in
theorem chk2_any (g g2 : Nat) (n x : Int) (w : World) (hg : NodeBox g g2 n w) :
    Calls Tryz.prog 31 #[.int .i64 x, .pointer (some ⟨g2, 0, none⟩)] w fun r w' => r = .returned (.bool (!nodeB n x)) ∧ Below w.heap.size w w' := by
  have HC := Lib.hid (chk1_any g n x w hg.1)
  have c0 := hg.2
  have eg := enters_of Tryz.func29 (by kernel_rfl) rfl
  clear hg
  go_enter Tryz.func31, Tryz.ntmps31
  go_wp2_with fail
  refine HC.out.mono ?_
  rintro e w1 ⟨rfl, rfl⟩
  go_wp2_with fail
  go_ret
  exact ⟨rfl, Below.refl _ _⟩
set_option maxRecDepth 100000 in
theorem chk3_any (g g2 : Nat) (n x : Int) (w : World) (hg : NodeBox g g2 n w) :
    Calls Tryz.prog 32 #[.int .i64 x, .pointer (some ⟨g2, 0, none⟩)] w fun r w' => r = .returned (.bool (!nodeB n x)) ∧ Below w.heap.size w w' := by
  have HC := Lib.hid (chk1_any g n x w hg.1)
  have c0 := hg.2
  have eg := enters_of Tryz.func29 (by kernel_rfl) rfl
  clear hg
  go_enter Tryz.func32, Tryz.ntmps32
  go_wp2_with fail
  refine HC.out.mono ?_
  rintro e w1 ⟨rfl, rfl⟩
  go_wp2_with fail
  go_ret
  exact ⟨rfl, Below.refl _ _⟩
set_option maxRecDepth 100000 in
theorem chk4_any (g g2 : Nat) (n x : Int) (y : Bool) (w : World) (hg : NodeBox g g2 n w) (h1 : g < w.heap.size) (h2 : g2 < w.heap.size) :
    Calls Tryz.prog 34 #[.agg #[.int .i64 x, .bool y], .pointer (some ⟨g2, 0, none⟩)] w fun r w' => r = .returned (.bool (!nodeB n x)) ∧ Below w.heap.size w w' := by
  have B0 := Lib.hid (below_new w (.cells #[.int .i64 x, .bool y] 71))
  have d0 := (B0.out.cell (p := ⟨g, 0, none⟩) h1).trans hg.1
  have c0 := (B0.out.cell (p := ⟨g2, 0, none⟩) h2).trans hg.2
  have HC := Lib.hid (chk1_any g n x _ d0)
  have eg := enters_of Tryz.func29 (by kernel_rfl) rfl
  clear hg d0
  go_enter Tryz.func34, Tryz.ntmps34
  go_wp2_with fail
  refine HC.out.mono ?_
  rintro e w1 ⟨rfl, rfl⟩
  go_wp2_with fail
  go_ret
  exact ⟨rfl, B0.out⟩
set_option maxRecDepth 100000 in
set_option maxHeartbeats 2000000 in
theorem indexH_any (F : FuncId) (hF : ∀ (args : Array Value) (w : World), (callFunc F args).run Tryz.prog w = .ok (.enter F args) w) (cap : Value) (bad : Int × Bool → Bool) (w : World) (A : Option Addr) (n c : Nat) (l : List (Int × Bool)) (hr : Rd w 2 A n c (fc l)) (hn : n ≤ 100000)
    (hcl : ∀ x ∈ l, ∀ W : World, Below w.heap.size w W → Calls Tryz.prog F #[.agg #[.int .i64 x.1, .bool x.2], cap] W fun r w' => r = .returned (.bool (bad x)) ∧ Below W.heap.size W w') :
    Calls Tryz.prog 45 #[.slice A n c, .func (.func F) #[] #[cap]] w (IndexA (l.any bad) w) := by
  have hl : n = l.length := by have := hr.len; rw [fc_length] at this; omega
  have HL := Lib.hid hl
  have HR := Lib.hid hr
  have HA := Lib.hid hcl
  clear hl hr hcl
  go_enter Tryz.func45, Tryz.ntmps45
  go_wp2_with fail
  go_loopw [8] (fun i wx => ∃ k : Nat, k ≤ n ∧ i = .int .i64 (k : Int) ∧ (l.take k).any bad = false ∧ Below w.heap.size w wx) (fun i _ => n - (intOf i).toNat)
  case atStart => exact ⟨0, by omega, rfl, by simp, Below.refl _ _⟩
  case round =>
    obtain ⟨k, hk, rfl, hno, hB⟩ := hrel
    have HN := Lib.hid hno
    have B1 := Lib.hid hB
    clear hno hB
    by_cases hlt : k < n
    · have hk' : k < l.length := by rw [← HL.out]; exact hlt
      obtain ⟨g1, g2⟩ := fc_get l k hk'
      obtain ⟨a, rfl, hab, c0, c1⟩ := (HR.out.later B1.out).two g1 g2
      have htk : (l.take (k + 1)).any bad = ((l.take k).any bad || bad l[k]) := by
        rw [List.take_succ_eq_append_getElem hk', List.any_append]; simp
      have hmem : bad l[k] = true → l.any bad = true := fun hx => List.any_eq_true.2 ⟨l[k], List.getElem_mem hk', hx⟩
      have HCL := Lib.hid (HA.out _ (List.getElem_mem hk') wr B1.out)
      have HT := Lib.hid htk
      have HM := Lib.hid hmem
      clear htk hmem g1 g2
      generalize l[k] = t at c0 c1 HT HM HCL
      obtain ⟨x, y⟩ := t
      simp only at c0 c1 HCL
      go_wp2_with fail
      refine HCL.out.mono ?_
      rintro e w1 ⟨rfl, hb1⟩
      have B2 := Lib.hid (below_then B1.out hb1)
      clear hb1 HCL
      cases ho : bad (x, y) with
      | true =>
        go_wp2_with fail
        go_ret
        exact ⟨(k : Int), rfl, ⟨fun _ => HM.out ho, fun _ => by omega⟩, B2.out⟩
      | false =>
        go_wp2_with fail
        go_roundw
        case rel => exact ⟨k + 1, by omega, by go_num, by rw [HT.out, HN.out, ho]; rfl, B2.out⟩
        case measure => simp [intOf]; omega
    · obtain rfl : k = n := by omega
      go_wp2_with fail
      go_ret
      refine ⟨-1, rfl, ⟨fun h => absurd h (by omega), fun h => ?_⟩, B1.out⟩
      have := HN.out
      rw [List.take_of_length_le (by rw [← HL.out]; exact Nat.le_refl _)] at this
      rw [this] at h
      cases h
set_option maxRecDepth 100000 in
theorem containsH_any (F : FuncId) (hF : ∀ (args : Array Value) (w : World), (callFunc F args).run Tryz.prog w = .ok (.enter F args) w) (cap : Value) (bad : Int × Bool → Bool) (w : World) (A : Option Addr) (n c : Nat) (l : List (Int × Bool)) (hr : Rd w 2 A n c (fc l)) (hn : n ≤ 100000)
    (hcl : ∀ x ∈ l, ∀ W : World, Below w.heap.size w W → Calls Tryz.prog F #[.agg #[.int .i64 x.1, .bool x.2], cap] W fun r w' => r = .returned (.bool (bad x)) ∧ Below W.heap.size W w') :
    Calls Tryz.prog 33 #[.slice A n c, .func (.func F) #[] #[cap]] w fun r w' => r = .returned (.bool (l.any bad)) ∧ Below w.heap.size w w' := by
  have HX := Lib.hid (indexH_any F hF cap bad w A n c l hr hn hcl)
  obtain ⟨r, hr2⟩ : ∃ r, l.any bad = r := ⟨_, rfl⟩
  rw [hr2] at HX ⊢
  clear hr hcl hr2
  go_enter Tryz.func33, Tryz.ntmps33
  go_wp2_with fail
  refine HX.out.mono ?_
  rintro e w1 ⟨i, rfl, hx, hb1⟩
  have HI := Lib.hid hx
  have B1 := Lib.hid hb1
  clear hx hb1
  by_cases h0 : 0 ≤ i
  · have hd : decide (0 ≤ i) = true := decide_eq_true h0
    have HR := Lib.hid (HI.out.1 h0)
    go_wp2_with fail
    go_ret
    exact ⟨by rw [HR.out]; rfl, B1.out⟩
  · have hd : decide (0 ≤ i) = false := decide_eq_false h0
    have hr : r = false := by cases r with
      | false => rfl
      | true => exact absurd (HI.out.2 rfl) h0
    have HR := Lib.hid hr
    clear hr
    go_wp2_with fail
    go_ret
    exact ⟨by rw [HR.out]; rfl, B1.out⟩
set_option maxRecDepth 100000 in
set_option maxHeartbeats 2000000 in
theorem lcheck_out (N : NT) (k : Int) (w : World) (hf : N.fit) (h : k < 2 ∨ 6 < k ∨ N.I < 0 ∨ 65536 < N.I) (hwf : N.wf) :
    Calls Tryz.prog 16 #[.agg #[.int .i64 N.I, .slice N.AH N.hs.length N.cH, .slice N.AL N.ls.length N.cL, .slice N.AO N.ou.length N.cO], .int .i64 k] w fun r w' => r = .returned (.int .i64 (N.chk k)) ∧ Below w.heap.size w w' := by
  have Q0 := Lib.hid (below_new w (.cells #[.int .i64 N.I, .slice N.AH N.hs.length N.cH, .slice N.AL N.ls.length N.cL, .slice N.AO N.ou.length N.cO] 32))
  have X0 := Lib.hid (Blk.made w 32 #[.int .i64 N.I, .slice N.AH N.hs.length N.cH, .slice N.AL N.ls.length N.cL, .slice N.AO N.ou.length N.cO])
  have k0 := X0.out.cell 0
  have k1 := X0.out.cell 1
  have k2 := X0.out.cell 2
  have k3 := X0.out.cell 3
  have f1 := hf.hs
  have f2 := hf.ls
  have f3 := hf.ou
  have hib := hwf.i
  obtain ⟨r, hr⟩ : ∃ r, N.chk k = r := ⟨_, rfl⟩
  rw [hr]
  by_cases h1 : k < 2
  · have HR := Lib.hid (show r = 1 by rw [← hr]; exact if_pos (.inl h1))
    clear hr h hf hwf
    go_enter Tryz.func16, Tryz.ntmps16
    go_wp2_with fail
    go_ret
    exact ⟨by rw [HR.out]; rfl, Q0.out⟩
  by_cases h2 : 6 < k
  · have HR := Lib.hid (show r = 1 by rw [← hr]; exact if_pos (.inr (.inl h2)))
    clear hr h hf hwf
    go_enter Tryz.func16, Tryz.ntmps16
    go_wp2_with fail
    go_ret
    exact ⟨by rw [HR.out]; rfl, Q0.out⟩
  by_cases h3 : N.I < 0
  · have HR := Lib.hid (show r = 1 by rw [← hr]; exact if_pos (.inr (.inr h3)))
    have hd : decide (N.I < 0) = true := decide_eq_true h3
    clear hr h hf hwf
    go_enter Tryz.func16, Tryz.ntmps16
    go_wp2_with fail
    go_ret
    exact ⟨by rw [HR.out]; rfl, Q0.out⟩
  have h4 : 65536 < N.I := by omega
  have HR := Lib.hid (show r = 2 by rw [← hr]; unfold NT.chk; rw [if_neg (by omega), if_pos h4])
  have hd : decide (N.I < 0) = false := decide_eq_false h3
  have hd2 : decide (65536 < N.I) = true := decide_eq_true h4
  clear hr h hf hwf
  go_enter Tryz.func16, Tryz.ntmps16
  go_wp2_with fail
  all_goals
    go_ret
    exact ⟨by rw [HR.out]; rfl, Q0.out⟩
theorem andNot_rows (t m : Nat) (ht : t < 18446744073709551616) (hm : m ≤ 6) : (bits .andNot .u64 (t : Int) (Cut.rows m : Int) != 0) = !decide (t < 2 ^ 2 ^ m) := by
  have e : bits .andNot .u64 (t : Int) (Cut.rows m : Int) = IntKind.u64.wrap ((BitVec.ofInt 64 (t : Int) &&& ~~~ BitVec.ofInt 64 (Cut.rows m : Int)).toNat : Int) := rfl
  have hrl := Cut.rows_lt m hm
  have e1 : (BitVec.ofInt 64 (t : Int)) = BitVec.ofNat 64 t := by simp
  have e2 : (BitVec.ofInt 64 (Cut.rows m : Int)) = BitVec.ofNat 64 (Cut.rows m) := by simp
  have key : (BitVec.ofNat 64 t &&& ~~~ BitVec.ofNat 64 (Cut.rows m)).toNat = 0 ↔ t < 2 ^ 2 ^ m := by
    have hm2 : 2 ^ m ≤ 64 := by
      have : 2 ^ m ≤ 2 ^ 6 := Nat.pow_le_pow_right (by omega) hm
      omega
    have hbit : ∀ i, i < 64 → (BitVec.ofNat 64 t &&& ~~~ BitVec.ofNat 64 (Cut.rows m)).getLsbD i = (t.testBit i && !decide (i < 2 ^ m)) := fun i hi => by
      rw [BitVec.getLsbD_and, BitVec.getLsbD_not, BitVec.getLsbD_ofNat, BitVec.getLsbD_ofNat]
      unfold Cut.rows
      rw [Nat.testBit_two_pow_sub_one]
      simp [hi]
    constructor
    · intro h
      have hX : (BitVec.ofNat 64 t &&& ~~~ BitVec.ofNat 64 (Cut.rows m)) = 0#64 := BitVec.eq_of_toNat_eq (by rw [h]; rfl)
      refine Nat.lt_pow_two_of_testBit t fun i hi => ?_
      rcases Nat.lt_or_ge i 64 with h64 | h64
      · have h1 := hbit i h64
        rw [hX, decide_eq_false (by omega)] at h1
        simpa using h1.symm
      · exact Nat.testBit_lt_two_pow (Nat.lt_of_lt_of_le ht (show 2 ^ 64 ≤ 2 ^ i from Nat.pow_le_pow_right (by omega) h64))
    · intro h
      have hX : (BitVec.ofNat 64 t &&& ~~~ BitVec.ofNat 64 (Cut.rows m)) = 0#64 := BitVec.eq_of_getLsbD_eq fun i hi => by
        rw [hbit i hi]
        rcases Nat.lt_or_ge i (2 ^ m) with h1 | h1
        · simp [h1]
        · rw [Nat.testBit_lt_two_pow (Nat.lt_of_lt_of_le h (Nat.pow_le_pow_right (by omega) h1))]; simp
      rw [hX]; rfl
  have hb : (BitVec.ofNat 64 t &&& ~~~ BitVec.ofNat 64 (Cut.rows m)).toNat < 18446744073709551616 := (BitVec.ofNat 64 t &&& ~~~ BitVec.ofNat 64 (Cut.rows m)).isLt
  rw [e, e1, e2]
  generalize (BitVec.ofNat 64 t &&& ~~~ BitVec.ofNat 64 (Cut.rows m)).toNat = z at key hb
  show ((((z : Nat) : Int) % 18446744073709551616) != 0) = _
  rw [Int.emod_eq_of_lt (by omega) (by omega)]
  by_cases h : t < 2 ^ 2 ^ m
  · rw [decide_eq_true h, key.2 h]; rfl
  · rw [decide_eq_false h]
    have : z ≠ 0 := fun hz => h (key.1 hz)
    simp [this]
theorem nodeB_any (n : Int) (l : List Int) : (l.any fun x => !nodeB n x) = !l.all (nodeB n) := by
  induction l with
  | nil => rfl
  | cons x l ih => simp only [List.any_cons, List.all_cons, ih]; cases nodeB n x <;> simp
set_option maxRecDepth 100000 in
set_option maxHeartbeats 4000000 in
theorem lcheck_in (N : NT) (k : Int) (w : World) (hin : N.In w) (hf : N.fit) (hwf : N.wf) (hk : 2 ≤ k ∧ k ≤ 6) (hi : 0 ≤ N.I ∧ N.I ≤ 1000) :
    Calls Tryz.prog 16 #[.agg #[.int .i64 N.I, .slice N.AH N.hs.length N.cH, .slice N.AL N.ls.length N.cL, .slice N.AO N.ou.length N.cO], .int .i64 k] w fun r w' => r = .returned (.int .i64 (N.chk k)) ∧ Below w.heap.size w w' := by
  have Q0 := Lib.hid (below_new w (.cells #[.int .i64 N.I, .slice N.AH N.hs.length N.cH, .slice N.AL N.ls.length N.cL, .slice N.AO N.ou.length N.cO] 32))
  have X0 := Lib.hid (Blk.made w 32 #[.int .i64 N.I, .slice N.AH N.hs.length N.cH, .slice N.AL N.ls.length N.cL, .slice N.AO N.ou.length N.cO])
  have k0 := X0.out.cell 0
  have k1 := X0.out.cell 1
  have k2 := X0.out.cell 2
  have k3 := X0.out.cell 3
  have f1 := hf.hs
  have f2 := hf.ls
  have f3 := hf.ou
  obtain ⟨r, hr⟩ : ∃ r, N.chk k = r := ⟨_, rfl⟩
  have hr0 : (if N.okk k then (0 : Int) else 1) = r := by
    rw [← hr]; unfold NT.chk
    rw [if_neg (show ¬ (k < 2 ∨ 6 < k ∨ N.I < 0) by omega), if_neg (show ¬ 65536 < N.I by omega)]
  have HR := Lib.hid hr0
  rw [hr]
  obtain ⟨hk1, hk2⟩ := hk
  obtain ⟨hi1, hi2⟩ := hi
  have hk1' : ¬ k < 2 := by omega
  have hk2' : ¬ 6 < k := by omega
  have hd : decide (N.I < 0) = false := decide_eq_false (by omega)
  have hd2 : decide (65536 < N.I) = false := decide_eq_false (by omega)
  obtain ⟨F, hF⟩ : ∃ F : Nat, N.fst = (F : Int) := ⟨N.fst.toNat, by unfold NT.fst; omega⟩
  have HFF := Lib.hid hF
  have hFi : 1 + N.I + (N.hs.length : Int) = (F : Int) := hF
  have HIN := Lib.hid hin
  have HF := Lib.hid hf
  have HWF := Lib.hid hwf
  clear hr hr0 hin hf hwf hF
  go_enter Tryz.func16, Tryz.ntmps16
  have hmf : ∀ (fn : Fn) (first cap : Array Value) (w : World), (Instr.makeFunc fn first cap).run Tryz.prog w = .ok (.func fn first cap) w := fun _ _ _ _ => rfl
  go_upto_region 3 with (fail)
  go_cut [41] (fun v41 wx => v41 = .bool false ∧ wx = (w.alloc (.cells #[.int .i64 N.I, .slice N.AH N.hs.length N.cH, .slice N.AL N.ls.length N.cL, .slice N.AO N.ou.length N.cO] 32)))
  case first =>
    go_wp2_with fail
    all_goals
      go_meet
      case rel => exact ⟨by first | (simp; done) | (simp; omega), rfl⟩
  case rest =>
    obtain ⟨rfl, rfl⟩ := hcut
    go_wp2_with fail
    have W0 := Lib.hid (show Below w.heap.size w (((w.alloc (.cells #[.int .i64 N.I, .slice N.AH N.hs.length N.cH, .slice N.AL N.ls.length N.cL, .slice N.AO N.ou.length N.cO] 32)).alloc (.cells #[.int .i64 (F : Int)] 3)).alloc (.cells #[.func (.func 29) #[] #[.pointer (some ⟨w.heap.size + 1, 0, none⟩)]] 80)) from below_then (below_then Q0.out (below_new _ _)) (below_new _ _))
    have X3 := Lib.hid ((X0.out.alloc (.cells #[.int .i64 (F : Int)] 3)).alloc (.cells #[.func (.func 29) #[] #[.pointer (some ⟨w.heap.size + 1, 0, none⟩)]] 80))
    have G1 := Lib.hid ((blk_made1 w (.cells #[.int .i64 N.I, .slice N.AH N.hs.length N.cH, .slice N.AL N.ls.length N.cL, .slice N.AO N.ou.length N.cO] 32) 3 #[.int .i64 (F : Int)]).alloc (.cells #[.func (.func 29) #[] #[.pointer (some ⟨w.heap.size + 1, 0, none⟩)]] 80))
    have G2 := Lib.hid (blk_made2 w (.cells #[.int .i64 N.I, .slice N.AH N.hs.length N.cH, .slice N.AL N.ls.length N.cL, .slice N.AO N.ou.length N.cO] 32) (.cells #[.int .i64 (F : Int)] 3) 80 #[.func (.func 29) #[] #[.pointer (some ⟨w.heap.size + 1, 0, none⟩)]])
    generalize ((w.alloc (.cells #[.int .i64 N.I, .slice N.AH N.hs.length N.cH, .slice N.AL N.ls.length N.cL, .slice N.AO N.ou.length N.cO] 32)).alloc (.cells #[.int .i64 (F : Int)] 3)).alloc (.cells #[.func (.func 29) #[] #[.pointer (some ⟨w.heap.size + 1, 0, none⟩)]] 80) = w0 at W0 X3 G1 G2 ⊢
    obtain ⟨n, hn⟩ : ∃ n, N.ls.length = n := ⟨_, rfl⟩
    have HN := Lib.hid hn
    rw [hn] at f2 ⊢
    obtain ⟨AL, hAL⟩ : ∃ A, N.AL = A := ⟨_, rfl⟩
    have HAL := Lib.hid hAL
    rw [hAL]
    clear hn hAL k0 k1 k2 k3
    go_loopw [53] (fun v wx => ∃ i : Nat, i ≤ n ∧ v = .int .i64 (i : Int) ∧ Below w.heap.size w wx ∧ Blk wx w.heap.size 32 #[.int .i64 N.I, .slice N.AH N.hs.length N.cH, .slice N.AL N.ls.length N.cL, .slice N.AO N.ou.length N.cO] ∧ Blk wx (w.heap.size + 1) 3 #[.int .i64 ((F : Int) + (i : Int))] ∧ Blk wx (w.heap.size + 2) 80 #[.func (.func 29) #[] #[.pointer (some ⟨w.heap.size + 1, 0, none⟩)]] ∧ ∀ j (h : j < N.ls.length), j < i → lutB k (N.fst + (j : Int)) (N.ls[j].1.2.2, N.ls[j].2) = true) (fun v _ => n - (intOf v).toNat)
    case atStart => exact ⟨0, by omega, rfl, W0.out, X3.out, by simpa using G1.out, G2.out, fun j _ h => absurd h (by omega)⟩
    case round =>
      obtain ⟨i, hi, rfl, hB, hx, hg1, hg2, hok⟩ := hrel
      have B1 := Lib.hid hB
      have X4 := Lib.hid hx
      have Y1 := Lib.hid hg1
      have Y2 := Lib.hid hg2
      have OK := Lib.hid hok
      clear hB hx hg1 hg2 hok
      by_cases hin : i < n
      case neg =>
        obtain rfl : i = n := by omega
        have hlt : ¬ (i : Int) < (i : Int) := by omega
        have k1 := X4.out.cell 1
        have k3 := X4.out.cell 3
        have htot : (F : Int) + (i : Int) = N.tot := by unfold NT.tot; rw [HFF.out, HN.out]
        have hall : ∀ j (h : j < N.ls.length), lutB k (N.fst + (j : Int)) (N.ls[j].1.2.2, N.ls[j].2) = true := fun j h => OK.out j h (by rw [← HN.out]; exact h)
        have eg3 := enters_of Tryz.func32 (by kernel_rfl) rfl
        have eg4 := enters_of Tryz.func34 (by kernel_rfl) rfl
        have HC3 := Lib.hid (containsI_any 32 eg3 (.pointer (some ⟨w.heap.size + 2, 0, none⟩)) (fun x => !nodeB ((F : Int) + (i : Int)) x) wr N.AO N.ou.length N.cO N.ou (HIN.out.ou.later B1.out) (by have := HF.out.ou; omega) (fun x _ W2 h2 => chk3_any (w.heap.size + 1) (w.heap.size + 2) _ x W2 ⟨(Y1.out.keep h2).cell 0, (Y2.out.keep h2).cell 0⟩))
        have HC4 := Lib.hid (fun (W : World) (h : Below wr.heap.size wr W) => containsH_any 34 eg4 (.pointer (some ⟨w.heap.size + 2, 0, none⟩)) (fun x => !nodeB ((F : Int) + (i : Int)) x.1) W N.AH N.hs.length N.cH N.hs (HIN.out.hs.later (below_then B1.out h)) (by have := HF.out.hs; omega) (fun x _ W2 h2 => chk4_any (w.heap.size + 1) (w.heap.size + 2) _ x.1 x.2 W2 ⟨((Y1.out.keep h).keep h2).cell 0, ((Y2.out.keep h).keep h2).cell 0⟩ ((Y1.out.keep h).keep h2).lt ((Y2.out.keep h).keep h2).lt))
        rw [nodeB_any, htot] at HC3
        rw [htot] at HC4
        have HALL := Lib.hid hall
        clear eg3 eg4 htot hall
        cases ho : N.ou.all (nodeB N.tot) with
        | false =>
          have H1 := Lib.hid (show r = 1 by
            rw [← HR.out]; exact if_neg fun h => by
              rw [List.all_eq_true.2 h.2.2] at ho; cases ho)
          rw [ho, Bool.not_false] at HC3
          clear ho HC4
          go_wp2_with fail
          refine HC3.out.mono ?_
          rintro e w5 ⟨rfl, hb5⟩
          have B5 := Lib.hid (below_then B1.out hb5)
          clear hb5
          go_wp2_with fail
          go_ret
          exact ⟨by rw [H1.out]; rfl, B5.out⟩
        | true =>
          have HOU := Lib.hid ho
          rw [ho, Bool.not_true] at HC3
          clear ho
          go_wp2_with fail
          refine HC3.out.mono ?_
          rintro e w5 ⟨rfl, hb5⟩
          have B5 := Lib.hid (below_then B1.out hb5)
          have H4 := Lib.hid (HC4.out w5 hb5)
          have X5 := Lib.hid (X4.out.keep hb5)
          clear hb5 k1 k3 HC4 HC3
          have k1 := X5.out.cell 1
          cases hh : (N.hs.any fun x => !nodeB N.tot x.1) with
          | true =>
            have H1 := Lib.hid (show r = 1 by
              rw [← HR.out]; exact if_neg fun h => by
                obtain ⟨x, hx, hx2⟩ := List.any_eq_true.1 hh
                rw [h.2.1 x hx] at hx2; cases hx2)
            rw [hh] at H4
            clear hh
            go_wp2_with fail
            refine H4.out.mono ?_
            rintro e w6 ⟨rfl, hb6⟩
            have B6 := Lib.hid (below_then B5.out hb6)
            clear hb6
            go_wp2_with fail
            go_ret
            exact ⟨by rw [H1.out]; rfl, B6.out⟩
          | false =>
            have H1 := Lib.hid (show r = 0 by
              rw [← HR.out]; refine if_pos ⟨HALL.out, fun h hm => ?_, List.all_eq_true.1 HOU.out⟩
              cases hb : nodeB N.tot h.1 with
              | true => rfl
              | false =>
                have : (N.hs.any fun x => !nodeB N.tot x.1) = true := List.any_eq_true.2 ⟨h, hm, by rw [hb]; rfl⟩
                rw [this] at hh; cases hh)
            rw [hh] at H4
            clear hh
            go_wp2_with fail
            refine H4.out.mono ?_
            rintro e w6 ⟨rfl, hb6⟩
            have B6 := Lib.hid (below_then B5.out hb6)
            clear hb6
            go_wp2_with fail
            go_ret
            exact ⟨by rw [H1.out]; rfl, B6.out⟩
      have hin' : (i : Int) < (n : Int) := by omega
      have hia : i < N.ls.length := by rw [HN.out]; exact hin
      obtain ⟨pa, hPA, hpb, e0, e1, hsl⟩ := HIN.out.ls.at_ hia
      have htw := (HWF.out.ls _ (List.getElem_mem hia)).2
      have hli := HF.out.li _ (List.getElem_mem hia)
      have hbad : lutB k (N.fst + (i : Int)) (N.ls[i].1.2.2, N.ls[i].2) = false → ¬ N.okk k := fun h hok => by
        have := hok.1 i hia; rw [h] at this; cases this
      have hnext : lutB k (N.fst + (i : Int)) (N.ls[i].1.2.2, N.ls[i].2) = true → ∀ j (h : j < N.ls.length), j < i + 1 → lutB k (N.fst + (j : Int)) (N.ls[j].1.2.2, N.ls[j].2) = true := fun h j hj hji => by
        rcases Nat.lt_or_ge j i with h1 | h1
        · exact OK.out j hj h1
        · obtain rfl : j = i := by omega
          exact h
      rw [HAL.out] at hPA
      rw [HFF.out] at hbad hnext
      subst hPA
      generalize N.ls[i] = ci at e0 e1 hsl hbad htw hli hnext
      obtain ⟨⟨l1, l2, l3⟩, t⟩ := ci
      simp only [slv] at e0 e1 hsl hbad htw hli hnext
      obtain ⟨ga, hga⟩ : ∃ p, pa.add (i * 2) = p := ⟨_, rfl⟩
      have hgab : ga.block < w.heap.size := by rw [← hga, add_block]; exact hpb
      rw [hga] at e0 e1
      have e2 := (B1.out.cell hgab).trans e0
      have e3 := (B1.out.cell (p := ⟨ga.block, ga.off + 1, none⟩) hgab).trans e1
      have HBAD := Lib.hid (fun h => show r = 1 by rw [← HR.out]; exact if_neg (hbad h))
      have HNEXT := Lib.hid hnext
      have HSL := Lib.hid hsl
      have B2 := Lib.hid (below_then B1.out (below_new wr (.cells #[.slice l1 l3.length l2, .int .u64 (t : Int)] 41)))
      have Z0 := Lib.hid (Blk.made wr 41 #[.slice l1 l3.length l2, .int .u64 (t : Int)])
      have X5 := Lib.hid (X4.out.alloc (.cells #[.slice l1 l3.length l2, .int .u64 (t : Int)] 41))
      have Y3 := Lib.hid (Y1.out.alloc (.cells #[.slice l1 l3.length l2, .int .u64 (t : Int)] 41))
      have Y4 := Lib.hid (Y2.out.alloc (.cells #[.slice l1 l3.length l2, .int .u64 (t : Int)] 41))
      clear e0 e1 hsl hbad hnext
      have y0 := Z0.out.cell 0
      have y1 := Z0.out.cell 1
      obtain ⟨q, hq⟩ : ∃ q, l3.length = q := ⟨_, rfl⟩
      have HQ := Lib.hid hq
      rw [hq] at e2 hli y0 Z0
      clear hq
      go_wp2_with fail
      have hq := HQ.out
      have hw10 : (wr.alloc (.cells #[.slice l1 q l2, .int .u64 (t : Int)] 41)).heap.size = wr.heap.size + 1 := by simp
      rw [hq] at B2 X5 Y3 Y4 y1
      generalize wr.alloc (.cells #[.slice l1 q l2, .int .u64 (t : Int)] 41) = w10 at B2 Z0 X5 Y3 Y4 y0 y1 hw10 ⊢
      have eg2 := enters_of Tryz.func31 (by kernel_rfl) rfl
      have HCF := Lib.hid (fun (W : World) (h : Below w10.heap.size w10 W) => containsI_any 31 eg2 (.pointer (some ⟨w.heap.size + 2, 0, none⟩)) (fun x => !nodeB ((F : Int) + (i : Int)) x) W l1 l3.length l2 l3 (Rd.later HSL.out (below_then B2.out h)) (by rw [hq]; omega) (fun x _ W2 h2 => chk2_any (w.heap.size + 1) (w.heap.size + 2) _ x W2 ⟨((Y3.out.keep h).keep h2).cell 0, ((Y4.out.keep h).keep h2).cell 0⟩))
      rw [nodeB_any, hq] at HCF
      clear eg2 hq e2 e3 hw10
      by_cases h1 : (q : Int) ≤ k
      case neg =>
        have H1 := Lib.hid (HBAD.out (by simp [lutB, HQ.out, h1]))
        have hd1 : decide (k < (q : Int)) = true := decide_eq_true (by omega)
        clear HBAD HNEXT h1
        refine wp_region_still_in (by kernel_rfl) (by kernel_rfl) fun St9 ne9 V9 hV9 hS9 => ?_
        have qy0 := still_cell hV9 y0
        have qy1 := still_cell hV9 y1
        repeat (first | go_big_quiet_step (fail) | quiet_step (fail))
        refine wpQuiet_nil ?_
        intro _ hw9
        obtain ⟨s9, rfl⟩ := hw9
        have hb9 := hV9 s9
        clear qy0 qy1 hS9
        generalize V9 s9 = w9 at hb9 ⊢
        clear hV9 s9 V9 ne9 St9
        go_wp2_with fail
        go_ret
        exact ⟨by rw [H1.out]; rfl, below_then B2.out hb9⟩
      have hd1 : decide (k < (q : Int)) = false := decide_eq_false (by omega)
      have hq6 : q ≤ 6 := by omega
      have HRW := Lib.hid (fun (W : World) => lrows_any q W hq6)
      have han := andNot_rows t q htw hq6
      obtain ⟨R, hR⟩ : ∃ R, Cut.rows q = R := ⟨_, rfl⟩
      rw [hR] at HRW han
      clear hR
      by_cases h2 : t < 2 ^ 2 ^ q
      case neg =>
        have H1 := Lib.hid (HBAD.out (by simp [lutB, HQ.out, h2]))
        rw [decide_eq_false h2, Bool.not_false] at han
        clear HBAD HNEXT h2
        refine wp_region_still_in (by kernel_rfl) (by kernel_rfl) fun St9 ne9 V9 hV9 hS9 => ?_
        have qy0 := still_cell hV9 y0
        have qy1 := still_cell hV9 y1
        repeat (first | go_big_quiet_step (first | (go_at_call 20; with_reducible exact Calls.still_same hS9 (HRW.out _)) | (go_at_call 30; with_reducible exact Calls.still hV9 hS9 (HCF.out _ (hV9 _)))) | quiet_step (first | (go_at_call 20; with_reducible exact Calls.still_same hS9 (HRW.out _)) | (go_at_call 30; with_reducible exact Calls.still hV9 hS9 (HCF.out _ (hV9 _)))))
        refine wpQuiet_nil ?_
        intro _ hw9
        obtain ⟨s9, rfl⟩ := hw9
        have hb9 := hV9 s9
        clear qy0 qy1 hS9
        generalize V9 s9 = w9 at hb9 ⊢
        clear hV9 s9 V9 ne9 St9
        go_wp2_with fail
        go_ret
        exact ⟨by rw [H1.out]; rfl, below_then B2.out hb9⟩
      rw [decide_eq_true h2, Bool.not_true] at han
      cases ha : l3.all (nodeB ((F : Int) + (i : Int))) with
      | false =>
        have H1 := Lib.hid (HBAD.out (by simp [lutB, HQ.out, h1, h2, ha]))
        rw [ha, Bool.not_false] at HCF
        clear HBAD HNEXT h2 ha
        refine wp_region_still_in (by kernel_rfl) (by kernel_rfl) fun St9 ne9 V9 hV9 hS9 => ?_
        have qy0 := still_cell hV9 y0
        have qy1 := still_cell hV9 y1
        repeat (first | go_big_quiet_step (first | (go_at_call 20; with_reducible exact Calls.still_same hS9 (HRW.out _)) | (go_at_call 30; with_reducible exact Calls.still hV9 hS9 (HCF.out _ (hV9 _)))) | quiet_step (first | (go_at_call 20; with_reducible exact Calls.still_same hS9 (HRW.out _)) | (go_at_call 30; with_reducible exact Calls.still hV9 hS9 (HCF.out _ (hV9 _)))))
        refine wpQuiet_nil ?_
        intro _ hw9
        obtain ⟨s9, rfl⟩ := hw9
        have hb9 := hV9 s9
        clear qy0 qy1 hS9
        generalize V9 s9 = w9 at hb9 ⊢
        clear hV9 s9 V9 ne9 St9
        go_wp2_with fail
        go_ret
        exact ⟨by rw [H1.out]; rfl, below_then B2.out hb9⟩
      | true =>
        have HNX := Lib.hid (HNEXT.out (by simp [lutB, HQ.out, h1, h2, ha]))
        rw [ha, Bool.not_true] at HCF
        clear HBAD HNEXT h2 ha
        refine wp_region_still_in (by kernel_rfl) (by kernel_rfl) fun St9 ne9 V9 hV9 hS9 => ?_
        have qy0 := still_cell hV9 y0
        have qy1 := still_cell hV9 y1
        repeat (first | go_big_quiet_step (first | (go_at_call 20; with_reducible exact Calls.still_same hS9 (HRW.out _)) | (go_at_call 30; with_reducible exact Calls.still hV9 hS9 (HCF.out _ (hV9 _)))) | quiet_step (first | (go_at_call 20; with_reducible exact Calls.still_same hS9 (HRW.out _)) | (go_at_call 30; with_reducible exact Calls.still hV9 hS9 (HCF.out _ (hV9 _)))))
        refine wpQuiet_nil ?_
        intro _ hw9
        obtain ⟨s9, rfl⟩ := hw9
        have hb9 := hV9 s9
        clear qy0 qy1 hS9
        generalize V9 s9 = w9 at hb9 ⊢
        clear hV9 s9 V9 ne9 St9
        have B9 := Lib.hid (below_then B2.out hb9)
        have X9 := Lib.hid (X5.out.keep hb9)
        have Y5 := Lib.hid (Y3.out.keep hb9)
        have Y6 := Lib.hid (Y4.out.keep hb9)
        clear hb9 y0 y1
        have c0 := Y5.out.cell 0
        have c1 := Y5.out.free 0
        go_wp2_with fail
        go_roundw
        case rel =>
          refine ⟨i + 1, by omega, by go_num, B9.out.setCell (p := ⟨w.heap.size + 1, 0, none⟩) (by show w.heap.size ≤ w.heap.size + 1; omega) _, X9.out.apart (by show w.heap.size ≠ w.heap.size + 1; omega) _, ?_, Y6.out.apart (by show w.heap.size + 2 ≠ w.heap.size + 1; omega) _, by have h := HNX.out; rw [← HFF.out] at h; exact h⟩
          rw [show ((F : Int) + ((i + 1 : Nat) : Int)) = (F : Int) + (i : Int) + 1 by omega]
          exact Y5.out.put 0 _
        case measure => simp [intOf]; omega
theorem lcheck_any (N : NT) (k : Int) (w : World) (hin : N.In w) (hf : N.fit) (hwf : N.wf) :
    Calls Tryz.prog 16 #[.agg #[.int .i64 N.I, .slice N.AH N.hs.length N.cH, .slice N.AL N.ls.length N.cL, .slice N.AO N.ou.length N.cO], .int .i64 k] w fun r w' => r = .returned (.int .i64 (N.chk k)) ∧ Below w.heap.size w w' := by
  by_cases h : k < 2 ∨ 6 < k ∨ N.I < 0 ∨ 65536 < N.I
  · exact lcheck_out N k w hf h hwf
  · exact lcheck_in N k w hin hf hwf (by omega) (by have := hf.i; omega)
end Go.Proofs.YtaajnmggbhnndaaGreatDoor

namespace Go.Proofs.YtaajnmggbhnndaaGreatDoor
open Go.RowKit Go.Shelf
set_option linter.unusedVariables false
set_option linter.unusedSimpArgs false
/-- what Nodes says: the error, the values -/
def NT.nodesE (N : NT) (ins st : List Bool) : Int := if N.chk 6 ≠ 0 then N.chk 6 else if (ins.length : Int) = N.I ∧ st.length = N.hs.length then 0 else 1
def NT.nodesV (N : NT) (ins st : List Bool) : List Bool := if N.nodesE ins st = 0 then nvTo N.luts ins st N.ls.length else []
def NT.evO (N : NT) (ins st : List Bool) : List Bool := if N.nodesE ins st = 0 then pickB (nvTo N.luts ins st N.ls.length) N.ou else []
def NT.evN (N : NT) (ins st : List Bool) : List Bool := if N.nodesE ins st = 0 then pickB (nvTo N.luts ins st N.ls.length) (N.hs.map (·.1)) else []
def NodesOut (N : NT) (ins st : List Bool) (w : World) (r : Ending) (w' : World) : Prop :=
  ∃ A c, r = .returned (.tuple #[.slice A (N.nodesV ins st).length c, .int .i64 (N.nodesE ins st)]) ∧ Below w.heap.size w w' ∧ Rd w' 1 A (N.nodesV ins st).length c (bools (N.nodesV ins st))
def EvalOut (N : NT) (ins st : List Bool) (w : World) (r : Ending) (w' : World) : Prop :=
  ∃ A c B d, r = .returned (.tuple #[.slice A (N.evO ins st).length c, .slice B (N.evN ins st).length d, .int .i64 (N.nodesE ins st)]) ∧ Below w.heap.size w w' ∧ Rd w' 1 A (N.evO ins st).length c (bools (N.evO ins st)) ∧ Rd w' 1 B (N.evN ins st).length d (bools (N.evN ins st))
theorem rd_nilB (w : World) : Rd w 1 none 0 0 (bools []) := Rd.none0 _ _ _ _ (fun _ => rfl)
theorem NT.nodes_yes {N : NT} {ins st : List Bool} (h : N.nodesE ins st = 0) : N.may 6 ∧ (ins.length : Int) = N.I ∧ st.length = N.hs.length := by
  unfold NT.nodesE at h
  split at h
  · rename_i h1; exact absurd h h1
  · rename_i h1
    split at h
    · rename_i h2; exact ⟨NT.chk_may.1 (by simpa using h1), h2⟩
    · omega
theorem nodesV_no {N : NT} {ins st : List Bool} (h : N.nodesE ins st ≠ 0) : N.nodesV ins st = [] ∧ N.evO ins st = [] ∧ N.evN ins st = [] := ⟨if_neg h, if_neg h, if_neg h⟩
theorem nodesV_yes {N : NT} {ins st : List Bool} (h : N.nodesE ins st = 0) : N.nodesV ins st = nvTo N.luts ins st N.ls.length ∧ N.evO ins st = pickB (nvTo N.luts ins st N.ls.length) N.ou ∧ N.evN ins st = pickB (nvTo N.luts ins st N.ls.length) (N.hs.map (·.1)) := ⟨if_pos h, if_pos h, if_pos h⟩
theorem nv_cn {N : NT} {ins st : List Bool} (hi : (ins.length : Int) = N.I) (hs : st.length = N.hs.length) : (nvTo N.luts ins st N.ls.length).length = N.cn := by
  rw [nvTo_len]; unfold NT.cn; omega
set_option maxRecDepth 100000 in
set_option maxHeartbeats 2000000 in
theorem lnodes_any (N : NT) (A B : Option Addr) (c d : Nat) (ins st : List Bool) (w : World) (hin : N.In w) (hf : N.fit) (hwf : N.wf) (ha : Rd w 1 A ins.length c (bools ins)) (hb : Rd w 1 B st.length d (bools st)) :
    Calls Tryz.prog 9 #[.agg #[.int .i64 N.I, .slice N.AH N.hs.length N.cH, .slice N.AL N.ls.length N.cL, .slice N.AO N.ou.length N.cO], .slice A ins.length c, .slice B st.length d] w (NodesOut N ins st w) := by
  have Q0 := Lib.hid (below_new w (.cells #[.int .i64 N.I, .slice N.AH N.hs.length N.cH, .slice N.AL N.ls.length N.cL, .slice N.AO N.ou.length N.cO] 32))
  have X0 := Lib.hid (Blk.made w 32 #[.int .i64 N.I, .slice N.AH N.hs.length N.cH, .slice N.AL N.ls.length N.cL, .slice N.AO N.ou.length N.cO])
  have HC := Lib.hid (lcheck_any N 6 (w.alloc (.cells #[.int .i64 N.I, .slice N.AH N.hs.length N.cH, .slice N.AL N.ls.length N.cL, .slice N.AO N.ou.length N.cO] 32)) (hin.later Q0.out) hf hwf)
  have k0 := X0.out.cell 0
  have k1 := X0.out.cell 1
  have k2 := X0.out.cell 2
  have k3 := X0.out.cell 3
  by_cases he : N.nodesE ins st = 0
  case neg =>
    obtain ⟨hv, -, -⟩ := nodesV_no he
    unfold NodesOut
    rw [hv]
    by_cases hc : N.chk 6 = 0
    case neg =>
      have hE : N.nodesE ins st = N.chk 6 := if_pos hc
      rw [hE]
      clear hin hf hwf ha hb hv he hE
      generalize N.chk 6 = e at HC hc ⊢
      have hd : (e != 0) = true := by rw [bne_iff_ne]; exact hc
      go_enter Tryz.func9, Tryz.ntmps9
      go_wp2_with fail
      refine HC.out.mono ?_
      rintro e1 w2 ⟨rfl, hb2⟩
      have Q2 := Lib.hid (below_then Q0.out hb2)
      clear hb2
      go_wp2_with fail
      go_ret2
      exact ⟨none, 0, rfl, Q2.out, rd_nilB _⟩
    have hE : N.nodesE ins st = 1 := by
      unfold NT.nodesE at he ⊢
      rw [if_neg (by simpa using hc)] at he ⊢
      by_cases h : (ins.length : Int) = N.I ∧ st.length = N.hs.length
      · rw [if_pos h] at he; exact absurd rfl he
      · rw [if_neg h]
    have hno : ¬ ((ins.length : Int) = N.I ∧ st.length = N.hs.length) := fun h => he (by unfold NT.nodesE; rw [if_neg (by simpa using hc), if_pos h])
    rw [hE]
    rw [hc] at HC
    clear hin hf hwf ha hb hv he hE hc
    by_cases h1 : (ins.length : Int) = N.I
    case neg =>
      have hd : ((ins.length : Int) != N.I) = true := by rw [bne_iff_ne]; exact h1
      clear hno h1
      go_enter Tryz.func9, Tryz.ntmps9
      go_wp2_with fail
      refine HC.out.mono ?_
      rintro e1 w2 ⟨rfl, hb2⟩
      have Q2 := Lib.hid (below_then Q0.out hb2)
      have X2 := Lib.hid (X0.out.keep hb2)
      clear hb2 k0 k1 k2 k3
      have k0 := X2.out.cell 0
      go_wp2_with fail
      go_ret2
      exact ⟨none, 0, rfl, Q2.out, rd_nilB _⟩
    have hd : ((ins.length : Int) != N.I) = false := by rw [h1]; simp
    have hd2 : ((st.length : Int) != (N.hs.length : Int)) = true := by rw [bne_iff_ne]; intro h; exact hno ⟨h1, by omega⟩
    clear hno h1
    go_enter Tryz.func9, Tryz.ntmps9
    go_wp2_with fail
    refine HC.out.mono ?_
    rintro e1 w2 ⟨rfl, hb2⟩
    have Q2 := Lib.hid (below_then Q0.out hb2)
    have X2 := Lib.hid (X0.out.keep hb2)
    clear hb2 k0 k1 k2 k3
    have k0 := X2.out.cell 0
    have k1 := X2.out.cell 1
    go_wp2_with fail
    go_ret2
    exact ⟨none, 0, rfl, Q2.out, rd_nilB _⟩
  obtain ⟨hm, hi, hs⟩ := NT.nodes_yes he
  obtain ⟨hv, -, -⟩ := nodesV_yes he
  unfold NodesOut
  rw [hv, he, nv_cn hi hs]
  rw [NT.chk_may.2 hm] at HC
  have HV := Lib.hid (fun (W : World) (h : Below w.heap.size w W) => lvalues_any N A B c d ins st W (hin.later h) hf hwf hm (ha.later h) (hb.later h) hi hs)
  have hd : ((ins.length : Int) != N.I) = false := by rw [hi]; simp
  have hd2 : ((st.length : Int) != (N.hs.length : Int)) = false := by rw [hs]; simp
  clear hin hf hwf ha hb hv he hm hi hs
  go_enter Tryz.func9, Tryz.ntmps9
  go_wp2_with fail
  refine HC.out.mono ?_
  rintro e1 w2 ⟨rfl, hb2⟩
  have Q2 := Lib.hid (below_then Q0.out hb2)
  have X2 := Lib.hid (X0.out.keep hb2)
  clear hb2 k0 k1 k2 k3
  have k0 := X2.out.cell 0
  have k1 := X2.out.cell 1
  have k2 := X2.out.cell 2
  have k3 := X2.out.cell 3
  go_wp2_with fail
  refine (HV.out _ Q2.out).mono ?_
  rintro e1 w3 ⟨A3, c3, rfl, hb3, hr3⟩
  have Q3 := Lib.hid (below_then Q2.out hb3)
  have R3 := Lib.hid hr3
  clear hb3 hr3 k0 k1 k2 k3
  go_wp2_with fail
  go_ret2
  exact ⟨A3, c3, rfl, Q3.out, R3.out⟩
set_option maxRecDepth 100000 in
set_option maxHeartbeats 2000000 in
theorem lplayed_any (N : NT) (A B : Option Addr) (c d : Nat) (ins st : List Bool) (w : World) (hin : N.In w) (hf : N.fit) (hwf : N.wf) (hm : N.may 6) (ha : Rd w 1 A ins.length c (bools ins)) (hb : Rd w 1 B st.length d (bools st)) (hi : (ins.length : Int) = N.I) (hs : st.length = N.hs.length) :
    Calls Tryz.prog 26 #[.agg #[.int .i64 N.I, .slice N.AH N.hs.length N.cH, .slice N.AL N.ls.length N.cL, .slice N.AO N.ou.length N.cO], .slice A ins.length c, .slice B st.length d] w fun r w' => ∃ A c B d, r = .returned (.tuple #[.slice A N.ou.length c, .slice B N.hs.length d]) ∧ Below w.heap.size w w' ∧ w'.ownsRow w.heap.size 4 1 (.slice A N.ou.length c) N.ou.length (bools (pickB (nvTo N.luts ins st N.ls.length) N.ou)) ∧ w'.ownsRow w.heap.size 4 1 (.slice B N.hs.length d) N.hs.length (bools (pickB (nvTo N.luts ins st N.ls.length) (N.hs.map (·.1)))) := by
  have Q0 := Lib.hid (below_new w (.cells #[.int .i64 N.I, .slice N.AH N.hs.length N.cH, .slice N.AL N.ls.length N.cL, .slice N.AO N.ou.length N.cO] 32))
  have X0 := Lib.hid (Blk.made w 32 #[.int .i64 N.I, .slice N.AH N.hs.length N.cH, .slice N.AL N.ls.length N.cL, .slice N.AO N.ou.length N.cO])
  have HV := Lib.hid (fun (W : World) (h : Below w.heap.size w W) => lvalues_any N A B c d ins st W (hin.later h) hf hwf hm (ha.later h) (hb.later h) hi hs)
  have hcn := nv_cn (N := N) hi hs
  have htot : N.tot = (N.cn : Int) := by have := hm.small hf; unfold NT.tot NT.fst NT.cn; omega
  have hcn3 : N.cn ≤ 4000 := by have := hm.small hf; have := hf.hs; have := hf.ls; unfold NT.cn; omega
  have HM := Lib.hid hm
  have HIN := Lib.hid hin
  have HF := Lib.hid hf
  have HTOT := Lib.hid htot
  obtain ⟨v, hv⟩ : ∃ v, nvTo N.luts ins st N.ls.length = v := ⟨_, rfl⟩
  rw [hv] at HV hcn ⊢
  have HCN := Lib.hid hcn
  obtain ⟨q, hq⟩ : ∃ q, N.cn = q := ⟨_, rfl⟩
  rw [hq] at HV hcn3 HCN HTOT
  have k0 := X0.out.cell 0
  have k1 := X0.out.cell 1
  have k2 := X0.out.cell 2
  have k3 := X0.out.cell 3
  clear hin hf hwf hm ha hb hi hs hcn htot hv hq
  go_enter Tryz.func26, Tryz.ntmps26
  go_wp2_with fail
  refine (HV.out _ Q0.out).mono ?_
  rintro e1 w2 ⟨A2, c2, rfl, hb2, hr2⟩
  have Q2 := Lib.hid (below_then Q0.out hb2)
  have X2 := Lib.hid (X0.out.keep hb2)
  have R2 := Lib.hid hr2
  clear hb2 hr2 k0 k1 k2 k3
  have k1 : w2.cell? ⟨w.heap.size, 1, none⟩ = some (.slice N.AH N.hs.length N.cH) := X2.out.cell 1
  obtain ⟨n, hn⟩ : ∃ n, N.hs.length = n := ⟨_, rfl⟩
  have HN := Lib.hid hn
  have hn3 : n ≤ 1000 := by rw [← hn]; exact HF.out.hs
  rw [hn] at k1 ⊢
  obtain ⟨AH, hAH⟩ : ∃ A, N.AH = A := ⟨_, rfl⟩
  have HAH := Lib.hid hAH
  rw [hAH] at k1
  clear hn hAH
  go_wp2_with fail
  go_loopw [7, 18] (fun v7 v18 wx => ∃ (i : Nat) (A : Option Addr) (c : Nat), i ≤ n ∧ v18 = .int .i64 (i : Int) ∧ v7 = .slice A i c ∧ wx.ownsRow w2.heap.size 4 1 (.slice A i c) i (bools (pickB v ((N.hs.map (·.1)).take i))) ∧ Below w2.heap.size w2 wx) (fun _ v18 _ => n - (intOf v18).toNat)
  case atStart => exact ⟨0, none, 0, by omega, rfl, rfl, by simpa [pickB, bools] using World.ownsRow_nil w2 w2.heap.size 4 1, Below.refl _ _⟩
  case round =>
    obtain ⟨i, A', c', hi, rfl, rfl, hown, hB⟩ := hrel
    have O1 := Lib.hid hown
    have B1 := Lib.hid hB
    clear hown hB
    by_cases hin : i < n
    case neg =>
      obtain rfl : i = n := by omega
      have hlt : ¬ (i : Int) < (i : Int) := by omega
      have HFULL := Lib.hid (show (N.hs.map (·.1)).take i = N.hs.map (·.1) from List.take_of_length_le (by rw [List.length_map, HN.out]; exact Nat.le_refl _))
      have X3 := Lib.hid (X2.out.keep B1.out)
      clear k1
      have k3 := X3.out.cell 3
      have HP := Lib.hid (pickB_any A2 N.AO q c2 N.cO v N.ou wr (R2.out.later B1.out) (HIN.out.ou.later (below_then Q2.out B1.out)) (fun z hz => by
        have h := HM.out.ok.2.2 z hz
        rw [HTOT.out] at h
        simpa [nodeB] using h) (by have := HF.out.ou; omega))
      go_wp2_with fail
      refine HP.out.mono ?_
      rintro e w5 ⟨A5, c5, rfl, hb5, hown5⟩
      have Q5 := Lib.hid (below_then Q2.out (below_then B1.out hb5))
      have O5 := Lib.hid (own_keep O1.out hb5)
      have R5 := Lib.hid (own_down hown5 (below_then Q2.out B1.out).size)
      clear hb5 hown5 k3
      go_wp2_with fail
      go_ret2
      exact ⟨A5, c5, A', c', by rw [HN.out]; rfl, Q5.out, R5.out, by have h := own_down O5.out Q2.out.size; rw [HFULL.out] at h; rw [HN.out]; exact h⟩
    have hin' : (i : Int) < (n : Int) := by omega
    have hia : i < N.hs.length := by rw [HN.out]; exact hin
    obtain ⟨g1, g2⟩ := fc_get N.hs i hia
    obtain ⟨pa, hPA, hpb, e0, e1⟩ := HIN.out.hs.two g1 g2
    have hnode := HM.out.ok.2.1 _ (List.getElem_mem hia)
    rw [HTOT.out] at hnode
    have hmi : i < (N.hs.map (·.1)).length := by rw [List.length_map]; exact hia
    have hnx := pickB_take v hmi
    have hge : (N.hs.map (·.1)).getD i 0 = N.hs[i].1 := by rw [List.getD_eq_getElem?_getD, List.getElem?_map, List.getElem?_eq_getElem hia]; rfl
    rw [hge] at hnx
    rw [HAH.out] at hPA
    subst hPA
    generalize N.hs[i] = hh at e0 e1 hnode hnx
    obtain ⟨x, y⟩ := hh
    simp only at e0 e1 hnode hnx
    simp only [nodeB, Bool.and_eq_true, decide_eq_true_eq] at hnode
    obtain ⟨z, hz⟩ : ∃ z : Nat, x = (z : Int) := ⟨x.toNat, by omega⟩
    subst hz
    rw [show ((z : Nat) : Int).toNat = z by omega] at hnx
    obtain ⟨ga, hga⟩ : ∃ p, pa.add (i * 2) = p := ⟨_, rfl⟩
    have hgab : ga.block < w.heap.size := by rw [← hga, add_block]; exact hpb
    rw [hga] at e0 e1
    have QB := below_then Q2.out B1.out
    have e2 := (QB.cell hgab).trans e0
    have e3 := (QB.cell (p := ⟨ga.block, ga.off + 1, none⟩) hgab).trans e1
    obtain ⟨pv, hPV, hpvb, d0⟩ := R2.out.bool (k := z) (by omega)
    subst hPV
    have d1 := (B1.out.cell (p := pv.add z) (by rw [add_block]; exact hpvb)).trans d0
    have B2 := Lib.hid (below_new wr (.cells #[.int .i64 (z : Int), .bool y] 71))
    have d2 := (B2.out.cell (p := pv.add z) (by rw [add_block]; exact Nat.lt_of_lt_of_le hpvb B1.out.size)).trans d1
    have y0 : (wr.alloc (.cells #[.int .i64 (z : Int), .bool y] 71)).cell? ⟨wr.heap.size, 0, none⟩ = some (.int .i64 (z : Int)) := (Blk.made wr _ _).cell 0
    have hzq : (z : Int) < (q : Int) := by omega
    have hsz := B1.out.size
    have HNX := Lib.hid hnx
    clear e0 e1 hnode hnx QB d0 d1 g1 g2 hmi hge
    generalize v.getD z false = b at d2 HNX
    go_wp2_with (at_builtin; refine wpList_app_bools rfl (.tmp 22) (.tmp 28) rfl w2.heap.size A' i c' _ rfl ((O1.out.alloc _).alloc _) (some ⟨wr.heap.size + 1, 0, none⟩) 1 1 [b] rfl (rd_of_blk (cs := bools [b]) (blk_made1 wr _ 4 #[.bool b]) 1 1 rfl) (by omega) (by simp; omega) ?_)
    intro A9 c9 u9 hown9 hgr9
    have HO9 := Lib.hid (show u9.ownsRow w2.heap.size 4 1 (.slice A9 (i + 1) c9) (i + 1) (bools (pickB v ((N.hs.map (·.1)).take (i + 1)))) from by rw [HNX.out]; exact hown9)
    have HB9 := Lib.hid ((below_then (below_then B1.out B2.out) (below_new _ _)).grown hgr9 (below_then (below_then B1.out B2.out) (below_new _ _)).size (fun q hq => own_base O1.out hq))
    clear hown9 hgr9 y0 d2 e2 e3
    go_wp2_with fail
    go_roundw
    case rel => exact ⟨i + 1, A9, c9, by omega, by go_num, rfl, HO9.out, HB9.out⟩
    case measure => simp [intOf]; omega
set_option maxRecDepth 100000 in
set_option maxHeartbeats 2000000 in
theorem leval_any (N : NT) (A B : Option Addr) (c d : Nat) (ins st : List Bool) (w : World) (hin : N.In w) (hf : N.fit) (hwf : N.wf) (ha : Rd w 1 A ins.length c (bools ins)) (hb : Rd w 1 B st.length d (bools st)) :
    Calls Tryz.prog 10 #[.agg #[.int .i64 N.I, .slice N.AH N.hs.length N.cH, .slice N.AL N.ls.length N.cL, .slice N.AO N.ou.length N.cO], .slice A ins.length c, .slice B st.length d] w (EvalOut N ins st w) := by
  have Q0 := Lib.hid (below_new w (.cells #[.int .i64 N.I, .slice N.AH N.hs.length N.cH, .slice N.AL N.ls.length N.cL, .slice N.AO N.ou.length N.cO] 32))
  have X0 := Lib.hid (Blk.made w 32 #[.int .i64 N.I, .slice N.AH N.hs.length N.cH, .slice N.AL N.ls.length N.cL, .slice N.AO N.ou.length N.cO])
  have HC := Lib.hid (lnodes_any N A B c d ins st (w.alloc (.cells #[.int .i64 N.I, .slice N.AH N.hs.length N.cH, .slice N.AL N.ls.length N.cL, .slice N.AO N.ou.length N.cO] 32)) (hin.later Q0.out) hf hwf (ha.later Q0.out) (hb.later Q0.out))
  have k0 := X0.out.cell 0
  have k1 := X0.out.cell 1
  have k2 := X0.out.cell 2
  have k3 := X0.out.cell 3
  by_cases he : N.nodesE ins st = 0
  case neg =>
    obtain ⟨hv, ho, hn⟩ := nodesV_no he
    unfold EvalOut
    rw [ho, hn]
    clear hin hf hwf ha hb hv ho hn
    unfold NodesOut at HC
    generalize N.nodesE ins st = e at HC he ⊢
    have hd : (e != 0) = true := by rw [bne_iff_ne]; exact he
    go_enter Tryz.func10, Tryz.ntmps10
    go_wp2_with fail
    refine HC.out.mono ?_
    rintro e1 w2 ⟨A2, c2, rfl, hb2, -⟩
    have Q2 := Lib.hid (below_then Q0.out hb2)
    clear hb2
    go_wp2_with fail
    go_ret3
    exact ⟨none, 0, none, 0, rfl, Q2.out, rd_nilB _, rd_nilB _⟩
  obtain ⟨hm, hi, hs⟩ := NT.nodes_yes he
  obtain ⟨hv, ho, hn⟩ := nodesV_yes he
  have HP := Lib.hid (fun (W : World) (h : Below w.heap.size w W) => lplayed_any N A B c d ins st W (hin.later h) hf hwf hm (ha.later h) (hb.later h) hi hs)
  unfold EvalOut
  unfold NodesOut at HC
  rw [ho, hn, he]
  rw [he] at HC
  have e1 : (pickB (nvTo N.luts ins st N.ls.length) N.ou).length = N.ou.length := by unfold pickB; rw [List.length_map]
  have e2 : (pickB (nvTo N.luts ins st N.ls.length) (N.hs.map (·.1))).length = N.hs.length := by unfold pickB; rw [List.length_map, List.length_map]
  rw [e1, e2]
  clear hin hf hwf ha hb hv he hm hi hs ho hn e1 e2
  go_enter Tryz.func10, Tryz.ntmps10
  go_wp2_with fail
  refine HC.out.mono ?_
  rintro e1 w2 ⟨A2, c2, rfl, hb2, -⟩
  have Q2 := Lib.hid (below_then Q0.out hb2)
  have X2 := Lib.hid (X0.out.keep hb2)
  clear hb2 k0 k1 k2 k3
  have k0 := X2.out.cell 0
  have k1 := X2.out.cell 1
  have k2 := X2.out.cell 2
  have k3 := X2.out.cell 3
  go_wp2_with fail
  refine (HP.out _ Q2.out).mono ?_
  rintro e1 w3 ⟨A3, c3, B3, d3, rfl, hb3, hr3, hs3⟩
  have Q3 := Lib.hid (below_then Q2.out hb3)
  have R3 := Lib.hid hr3
  have S3 := Lib.hid hs3
  clear hb3 hr3 hs3 k0 k1 k2 k3
  go_wp2_with fail
  go_ret3
  exact ⟨A3, c3, B3, d3, rfl, Q3.out, Rd.of_own R3.out, Rd.of_own S3.out⟩
end Go.Proofs.YtaajnmggbhnndaaGreatDoor

namespace Go.Proofs.YtaajnmggbhnndaaGreatDoor
open Go.RowKit Go.Shelf
set_option linter.unusedVariables false
set_option linter.unusedSimpArgs false
/-- what is kept, and told, when so many rows have come in -/
def NT.stA (N : NT) (rows : List (List Bool)) : Nat → List Bool
  | 0 => N.hs.map (·.2)
  | k + 1 => pickB (nvTo N.luts (rows.getD k []) (N.stA rows k) N.ls.length) (N.hs.map (·.1))
def NT.outA (N : NT) (rows : List (List Bool)) (k : Nat) : List (List Bool) := (List.range k).map fun j => pickB (nvTo N.luts (rows.getD j []) (N.stA rows j) N.ls.length) N.ou
theorem NT.stA_len (N : NT) (rows : List (List Bool)) : ∀ k, (N.stA rows k).length = N.hs.length
  | 0 => by simp [NT.stA]
  | k + 1 => by simp [NT.stA, pickB]
theorem NT.outA_next (N : NT) (rows : List (List Bool)) (k : Nat) : N.outA rows (k + 1) = N.outA rows k ++ [pickB (nvTo N.luts (rows.getD k []) (N.stA rows k) N.ls.length) N.ou] := by
  unfold NT.outA; rw [List.range_succ, List.map_append]; rfl
def NT.runE (N : NT) (rows : List (List Bool)) : Int := if N.chk 6 ≠ 0 then N.chk 6 else if ∀ r ∈ rows, (r.length : Int) = N.I then 0 else 1
def NT.runV (N : NT) (rows : List (List Bool)) : List (List Bool) := if N.runE rows = 0 then N.outA rows rows.length else []
/-- rows of bits that are read -/
structure RowsB (w : World) (A : Option Addr) (c : Nat) (ls : List SB) : Prop where
  row : Rd w 1 A ls.length c (ls.map slvB)
  all : ∀ l ∈ ls, Rd w 1 l.1 l.2.2.length l.2.1 (bools l.2.2)
theorem RowsB.later {w w' : World} {A : Option Addr} {c : Nat} {ls : List SB} (h : RowsB w A c ls) (hb : Below w.heap.size w w') : RowsB w' A c ls := ⟨h.row.later hb, fun l hl => (h.all l hl).later hb⟩
def rowsP (ls : List SB) : List (List Bool) := ls.map fun l => l.2.2
theorem rowsP_len (ls : List SB) : (rowsP ls).length = ls.length := by unfold rowsP; rw [List.length_map]
theorem rowsP_at {ls : List SB} {k : Nat} (h : k < ls.length) : (rowsP ls).getD k [] = ls[k].2.2 := by
  unfold rowsP; rw [List.getD_eq_getElem?_getD, List.getElem?_map, List.getElem?_eq_getElem h]; rfl
theorem RowsB.at_ {w : World} {A : Option Addr} {c : Nat} {ls : List SB} (h : RowsB w A c ls) {k : Nat} (hk : k < ls.length) : ∃ a, A = some a ∧ a.block < w.heap.size ∧ w.cell? (a.add k) = some (slvB ls[k]) ∧ Rd w 1 ls[k].1 ls[k].2.2.length ls[k].2.1 (bools ls[k].2.2) := by
  obtain ⟨a, hA, hb, hr⟩ := h.row.at1 hk
  refine ⟨a, hA, hb, ?_, h.all _ (List.getElem_mem hk)⟩
  rw [hr, List.getD_eq_getElem?_getD, List.getElem?_map, List.getElem?_eq_getElem hk]
  rfl
def RunOut (N : NT) (rows : List (List Bool)) (w : World) (r : Ending) (w' : World) : Prop :=
  ∃ A c ls, r = .returned (.tuple #[.slice A (ls : List SB).length c, .int .i64 (N.runE rows)]) ∧ Below w.heap.size w w' ∧ RowsB w' A c ls ∧ rowsP ls = N.runV rows
theorem rows_info : (Tryz.prog.info? 42).map (fun i => (i.zero, i.size, i.bytes)) = some (some (.slice none 0 0), 1, 24) := by kernel_rfl
theorem rowsB_nil (w : World) : RowsB w none 0 [] := ⟨Rd.none0 _ _ _ _ (fun _ => rfl), fun l hl => by cases hl⟩
set_option maxRecDepth 100000 in
set_option maxHeartbeats 4000000 in
theorem lrun_any (N : NT) (A0 : Option Addr) (c0 : Nat) (rs : List SB) (w : World) (hin : N.In w) (hf : N.fit) (hwf : N.wf) (hr : RowsB w A0 c0 rs) (hrl : rs.length ≤ 1000) (hrr : ∀ l ∈ rs, l.2.2.length ≤ 100000) :
    Calls Tryz.prog 11 #[.agg #[.int .i64 N.I, .slice N.AH N.hs.length N.cH, .slice N.AL N.ls.length N.cL, .slice N.AO N.ou.length N.cO], .slice A0 rs.length c0] w (RunOut N (rowsP rs) w) := by
  have Q0 := Lib.hid (below_new w (.cells #[.int .i64 N.I, .slice N.AH N.hs.length N.cH, .slice N.AL N.ls.length N.cL, .slice N.AO N.ou.length N.cO] 32))
  have X0 := Lib.hid (Blk.made w 32 #[.int .i64 N.I, .slice N.AH N.hs.length N.cH, .slice N.AL N.ls.length N.cL, .slice N.AO N.ou.length N.cO])
  have HC := Lib.hid (lcheck_any N 6 (w.alloc (.cells #[.int .i64 N.I, .slice N.AH N.hs.length N.cH, .slice N.AL N.ls.length N.cL, .slice N.AO N.ou.length N.cO] 32)) (hin.later Q0.out) hf hwf)
  have k0 := X0.out.cell 0
  have k1 := X0.out.cell 1
  have k2 := X0.out.cell 2
  have k3 := X0.out.cell 3
  by_cases hc : N.chk 6 = 0
  case neg =>
    have hE : N.runE (rowsP rs) = N.chk 6 := if_pos hc
    have hV : N.runV (rowsP rs) = [] := if_neg (by rw [hE]; exact hc)
    unfold RunOut
    rw [hE, hV]
    clear hin hf hwf hr hrl hrr hE hV
    generalize N.chk 6 = e at HC hc ⊢
    have hd : (e != 0) = true := by rw [bne_iff_ne]; exact hc
    go_enter Tryz.func11, Tryz.ntmps11
    go_wp2_with fail
    refine HC.out.mono ?_
    rintro e1 w2 ⟨rfl, hb2⟩
    have Q2 := Lib.hid (below_then Q0.out hb2)
    clear hb2
    go_wp2_with fail
    go_ret2
    exact ⟨none, 0, [], rfl, Q2.out, rowsB_nil _, rfl⟩
  have hm := NT.chk_may.1 hc
  rw [hc] at HC
  have HIN := Lib.hid hin
  have HF := Lib.hid hf
  have HWF := Lib.hid hwf
  have HM := Lib.hid hm
  have HR := Lib.hid hr
  have HRR := Lib.hid hrr
  have HE : Hid (∀ b : Bool, b = true ∨ ¬ (∀ r ∈ rowsP rs, (r.length : Int) = N.I) → True) := Lib.hid fun _ _ => trivial
  have hEy : (∀ r ∈ rowsP rs, (r.length : Int) = N.I) → N.runE (rowsP rs) = 0 ∧ N.runV (rowsP rs) = N.outA (rowsP rs) (rowsP rs).length := fun h => by
    have h1 : N.runE (rowsP rs) = 0 := by unfold NT.runE; rw [if_neg (by simpa using hc), if_pos h]
    exact ⟨h1, if_pos h1⟩
  have hEn : ¬ (∀ r ∈ rowsP rs, (r.length : Int) = N.I) → N.runE (rowsP rs) = 1 ∧ N.runV (rowsP rs) = [] := fun h => by
    have h1 : N.runE (rowsP rs) = 1 := by unfold NT.runE; rw [if_neg (by simpa using hc), if_neg h]
    exact ⟨h1, if_neg (by rw [h1]; decide)⟩
  have HEY := Lib.hid hEy
  have HEN := Lib.hid hEn
  obtain ⟨n, hn⟩ : ∃ n, N.hs.length = n := ⟨_, rfl⟩
  have HN := Lib.hid hn
  have hn3 : n ≤ 1000 := by rw [← hn]; exact hf.hs
  obtain ⟨m, hmm⟩ : ∃ m, rs.length = m := ⟨_, rfl⟩
  have HMM := Lib.hid hmm
  rw [hmm] at hrl ⊢
  clear hin hf hwf hr hrr hc hm hEy hEn HE hn hmm
  go_enter Tryz.func11, Tryz.ntmps11
  go_wp2_with fail
  refine HC.out.mono ?_
  rintro e1 w2 ⟨rfl, hb2⟩
  have Q2 := Lib.hid (below_then Q0.out hb2)
  have X2 := Lib.hid (X0.out.keep hb2)
  clear hb2 k0 k1 k2 k3 HC
  have k1 : w2.cell? ⟨w.heap.size, 1, none⟩ = some (.slice N.AH N.hs.length N.cH) := X2.out.cell 1
  rw [HN.out] at k1
  obtain ⟨AH, hAH⟩ : ∃ A, N.AH = A := ⟨_, rfl⟩
  have HAH := Lib.hid hAH
  rw [hAH] at k1
  clear hAH
  go_wp2_with fail
  go_loopw [7, 23] (fun v7 v23 wx => ∃ (i : Nat) (A : Option Addr) (c : Nat), i ≤ n ∧ v23 = .int .i64 (i : Int) ∧ v7 = .slice A i c ∧ wx.ownsRow w2.heap.size 4 1 (.slice A i c) i (bools ((N.hs.map (·.2)).take i)) ∧ Below w2.heap.size w2 wx) (fun _ v23 _ => n - (intOf v23).toNat)
  case atStart => exact ⟨0, none, 0, by omega, rfl, rfl, by simpa [bools] using World.ownsRow_nil w2 w2.heap.size 4 1, Below.refl _ _⟩
  case round =>
    obtain ⟨i, A', c', hi, rfl, rfl, hown, hB⟩ := hrel
    have O1 := Lib.hid hown
    have B1 := Lib.hid hB
    clear hown hB
    by_cases hin : i < n
    case neg =>
      obtain rfl : i = n := by omega
      have hlt : ¬ (i : Int) < (i : Int) := by omega
      have hst0 : (N.hs.map (·.2)).take i = N.stA (rowsP rs) 0 := List.take_of_length_le (by rw [List.length_map, HN.out]; exact Nat.le_refl _)
      have O2 := Lib.hid (show wr.ownsRow w2.heap.size 4 1 (.slice A' i c') i (bools (N.stA (rowsP rs) 0)) by have h := O1.out; rw [hst0] at h; exact h)
      have X3 := Lib.hid (X2.out.keep B1.out)
      have Q3 := Lib.hid (below_then Q2.out B1.out)
      clear hst0 k1
      go_wp2_with fail
      have k0 := X3.out.cell 0
      go_loopw [7, 10, 35] (fun v7 v10 v35 wx => ∃ (k : Nat) (A : Option Addr) (c : Nat) (B : Option Addr) (d : Nat) (os : List SB), k ≤ m ∧ v35 = .int .i64 (k : Int) ∧ v10 = .slice A k c ∧ v7 = .slice B N.hs.length d ∧ os.length = k ∧ rowsP os = N.outA (rowsP rs) k ∧ (∀ j, j < k → (((rowsP rs).getD j []).length : Int) = N.I) ∧ wx.ownsRow w2.heap.size 42 1 (.slice A k c) k (os.map slvB) ∧ (∀ l ∈ os, wx.ownsRow w2.heap.size 4 1 (slvB l) l.2.2.length (bools l.2.2)) ∧ wx.ownsRow w2.heap.size 4 1 (.slice B N.hs.length d) N.hs.length (bools (N.stA (rowsP rs) k)) ∧ Below w2.heap.size w2 wx) (fun _ _ v35 _ => m - (intOf v35).toNat)
      case atStart => exact ⟨0, none, 0, A', c', [], by omega, rfl, rfl, by rw [HN.out], rfl, rfl, fun j hj => absurd hj (Nat.not_lt_zero _), World.ownsRow_nil _ _ _ _, (fun l hl => by cases hl), by rw [HN.out]; exact O2.out, B1.out⟩
      case round =>
        obtain ⟨k, A4, c4, S4, d4, os, hk, rfl, rfl, rfl, hol, hop, hlen, hown, hall, hst, hB⟩ := hrel
        have OL := Lib.hid hown
        have OA := Lib.hid hall
        have OS := Lib.hid hst
        have B4 := Lib.hid hB
        have HOL := Lib.hid hol
        have HOP := Lib.hid hop
        have HLEN := Lib.hid hlen
        have X4 := Lib.hid (X2.out.keep hB)
        have Q4 := Lib.hid (below_then Q2.out hB)
        clear hown hall hst hB hol hop hlen k0 hlt hin
        by_cases hkm : k < m
        case neg =>
          obtain rfl : k = m := by omega
          have hlt : ¬ (k : Int) < (k : Int) := by omega
          go_wp2_with fail
          go_ret2
          have hev : ∀ r ∈ rowsP rs, (r.length : Int) = N.I := fun r hr => by
            obtain ⟨j, hj, rfl⟩ := List.mem_iff_getElem.1 hr
            have hj' : j < k := by rw [rowsP_len, HMM.out] at hj; exact hj
            have h := HLEN.out j hj'
            rw [List.getD_eq_getElem?_getD, List.getElem?_eq_getElem hj] at h
            exact h
          obtain ⟨hE, hV⟩ := HEY.out hev
          refine ⟨A4, c4, os, by rw [HOL.out, hE]; rfl, Q4.out, ⟨by rw [HOL.out]; exact Rd.of_own OL.out, fun l hl => Rd.of_own (OA.out l hl)⟩, by rw [hV, HOP.out, rowsP_len, HMM.out]⟩
        have hkm' : (k : Int) < (m : Int) := by omega
        have hkr : k < rs.length := by rw [HMM.out]; exact hkm
        obtain ⟨pa, hPA, hpb, e0, hrd⟩ := HR.out.at_ hkr
        have hge := rowsP_at hkr
        have hl5 := HRR.out _ (List.getElem_mem hkr)
        subst hPA
        generalize rs[k] = l at e0 hrd hge hl5
        obtain ⟨lA, lc, row⟩ := l
        simp only [slvB] at e0 hrd hge hl5
        have e1 := (Q4.out.cell (p := pa.add k) (by rw [add_block]; exact hpb)).trans e0
        have R4 := Lib.hid (hrd.later Q4.out)
        clear e0 hrd
        have k0 := X4.out.cell 0
        have k1 := X4.out.cell 1
        have k2 := X4.out.cell 2
        have k3 := X4.out.cell 3
        have HGE := Lib.hid hge
        clear hge
        by_cases hrow : (row.length : Int) = N.I
        case neg =>
          have hne : ((row.length : Int) != N.I) = true := by rw [bne_iff_ne]; exact hrow
          have HNE := Lib.hid hrow
          clear hrow
          generalize hrl : row.length = q at *
          go_wp2_with fail
          go_ret2
          obtain ⟨hE, hV⟩ := HEN.out (fun h => HNE.out (by
            have h' := h ((rowsP rs).getD k []) (by rw [List.getD_eq_getElem?_getD, List.getElem?_eq_getElem (by rw [rowsP_len]; exact hkr)]; exact List.getElem_mem _)
            rw [HGE.out, hrl] at h'; exact h'))
          exact ⟨none, 0, [], by rw [hE]; rfl, Q4.out, rowsB_nil _, hV.symm⟩
        clear k0 k1 k2 k3
        have HPL := Lib.hid (lplayed_any N lA S4 lc d4 row (N.stA (rowsP rs) k) wr (HIN.out.later Q4.out) HF.out HWF.out HM.out R4.out (by rw [NT.stA_len]; exact Rd.of_own OS.out) hrow (NT.stA_len _ _ _))
        rw [NT.stA_len] at HPL
        have HEQ := Lib.hid (show (row.length : Int) = N.I from hrow)
        have k0 := X4.out.cell 0
        have k1 := X4.out.cell 1
        have k2 := X4.out.cell 2
        have k3 := X4.out.cell 3
        rw [← hrow] at k0 HPL
        clear hrow
        obtain ⟨q, hq⟩ : ∃ q, row.length = q := ⟨_, rfl⟩
        rw [hq] at k0 HPL e1 hl5
        have hne : ((q : Int) != (q : Int)) = false := bne_self_eq_false' _
        go_wp2_with fail
        refine HPL.out.mono ?_
        rintro e5 w5 ⟨A5, c5, B5, d5, rfl, hb5, hr5, hs5⟩
        have O5 := Lib.hid (own_keep OL.out hb5)
        have OA5 := Lib.hid (fun l hl => own_keep (OA.out l hl) hb5)
        have R5 := Lib.hid (own_down hr5 B4.out.size)
        have S5 := Lib.hid (own_down hs5 B4.out.size)
        have B5' := Lib.hid (below_then B4.out hb5)
        have Q5 := Lib.hid (below_then Q4.out hb5)
        have X5 := Lib.hid (X4.out.keep hb5)
        obtain ⟨v, hv⟩ : ∃ v, nvTo N.luts row (N.stA (rowsP rs) k) N.ls.length = v := ⟨_, rfl⟩
        rw [hv] at R5 S5
        have hnx : N.outA (rowsP rs) (k + 1) = N.outA (rowsP rs) k ++ [pickB v N.ou] := by rw [NT.outA_next, HGE.out, hv]
        have hsx : N.stA (rowsP rs) (k + 1) = pickB v (N.hs.map (·.1)) := by show pickB (nvTo N.luts ((rowsP rs).getD k []) (N.stA (rowsP rs) k) N.ls.length) _ = _; rw [HGE.out, hv]
        have HNX := Lib.hid hnx
        have HSX := Lib.hid hsx
        have hsz5 := B5'.out.size
        clear hb5 hr5 hs5 k0 k1 k2 k3 e1 HPL hnx hsx hv
        go_wp2_with (at_builtin; refine wpList_app_at rfl (.tmp 51) (.tmp 53) 47 42 rfl Tryz.underlying47 _ 1 24 rows_info rfl (by decide) (by decide) w2.heap.size A4 k c4 (os.map slvB) rfl (O5.out.alloc _) ⟨w5.heap.size, 0, none⟩ 1 [.slice A5 N.ou.length c5] rfl (rd_of_blk (Blk.made _ _ _) 1 1 rfl) (fun u hu => by rw [List.mem_singleton] at hu; subst hu; rfl) (by omega) (by simp; omega) ?_)
        intro A9 c9 u9 hown9 hgr9 hat9
        have hb10 := below_then B5'.out (below_new w5 (.cells #[.slice A5 N.ou.length c5] 42))
        have HB9 := Lib.hid (hb10.grown hgr9 hb10.size (fun g hg => own_base O5.out (by rw [own_blk]; exact hg)))
        have O10 := O5.out.alloc (.cells #[.slice A5 N.ou.length c5] 42)
        have hL9 : os.map slvB ++ [.slice A5 N.ou.length c5] = (os ++ [((A5, c5, pickB v N.ou) : SB)]).map slvB := by
          rw [List.map_append]
          show _ = _ ++ [Value.slice A5 (pickB v N.ou).length c5]
          rw [show (pickB v N.ou).length = N.ou.length by unfold pickB; rw [List.length_map]]
        have O9 := Lib.hid (show u9.ownsRow w2.heap.size 42 1 (.slice A9 (k + 1) c9) (k + 1) ((os ++ [((A5, c5, pickB v N.ou) : SB)]).map slvB) from by rw [← hL9]; exact hown9)
        have R9 := Lib.hid (own_grown (R5.out.alloc (.cells #[.slice A5 N.ou.length c5] 42)) O10 (by decide) hgr9)
        have S9 := Lib.hid (own_grown (S5.out.alloc (.cells #[.slice A5 N.ou.length c5] 42)) O10 (by decide) hgr9)
        have OA9 : Hid (∀ l ∈ os, u9.ownsRow w2.heap.size 4 1 (slvB l) l.2.2.length (bools l.2.2)) := Lib.hid (fun l hl => own_grown ((OA5.out l hl).alloc (.cells #[.slice A5 N.ou.length c5] 42)) O10 (by decide) hgr9)
        clear hown9 hgr9 hat9 hL9 hb10 O10
        go_wp2_with fail
        go_roundw
        case rel =>
          refine ⟨k + 1, A9, c9, B5, d5, os ++ [(A5, c5, pickB v N.ou)], by omega, by go_num, rfl, rfl, by rw [List.length_append, HOL.out]; rfl, ?_, ?_, O9.out, ?_, by rw [HSX.out]; exact S9.out, HB9.out⟩
          · rw [HNX.out, ← HOP.out]; unfold rowsP; rw [List.map_append]; rfl
          · intro j hj
            rcases Nat.lt_succ_iff_lt_or_eq.1 hj with h | rfl
            · exact HLEN.out j h
            · rw [HGE.out, hq, ← hq]; exact HEQ.out
          · intro l hl
            rcases List.mem_append.1 hl with h | h
            · exact OA9.out l h
            · rw [List.mem_singleton] at h; subst h
              show World.ownsRow _ _ _ _ (Value.slice A5 (pickB v N.ou).length c5) (pickB v N.ou).length _
              rw [show (pickB v N.ou).length = N.ou.length by unfold pickB; rw [List.length_map]]
              exact R9.out
        case measure => simp [intOf]; omega
    have hin' : (i : Int) < (n : Int) := by omega
    have hia : i < N.hs.length := by rw [HN.out]; exact hin
    obtain ⟨g1, g2⟩ := fc_get N.hs i hia
    obtain ⟨pa, hPA, hpb, e0, e1⟩ := HIN.out.hs.two g1 g2
    have hmi : i < (N.hs.map (·.2)).length := by rw [List.length_map]; exact hia
    have hnx : (N.hs.map (·.2)).take (i + 1) = (N.hs.map (·.2)).take i ++ [N.hs[i].2] := by
      rw [List.take_succ_eq_append_getElem hmi, List.getElem_map]
    rw [HAH.out] at hPA
    subst hPA
    generalize N.hs[i] = hh at e0 e1 hnx
    obtain ⟨x, y⟩ := hh
    simp only at e0 e1 hnx
    obtain ⟨ga, hga⟩ : ∃ p, pa.add (i * 2) = p := ⟨_, rfl⟩
    have hgab : ga.block < w.heap.size := by rw [← hga, add_block]; exact hpb
    rw [hga] at e0 e1
    have QB := below_then Q2.out B1.out
    have e2 := (QB.cell hgab).trans e0
    have e3 := (QB.cell (p := ⟨ga.block, ga.off + 1, none⟩) hgab).trans e1
    have B2 := Lib.hid (below_new wr (.cells #[.int .i64 x, .bool y] 71))
    have y1 : (wr.alloc (.cells #[.int .i64 x, .bool y] 71)).cell? ⟨wr.heap.size, 1, none⟩ = some (.bool y) := (Blk.made wr _ _).cell 1
    have hsz := B1.out.size
    have hszw := (below_then Q2.out B1.out).size
    have HNX := Lib.hid hnx
    clear e0 e1 hnx QB g1 g2 hmi
    go_wp2_with (at_builtin; refine wpList_app_bools rfl (.tmp 27) (.tmp 30) rfl w2.heap.size A' i c' _ rfl ((O1.out.alloc _).alloc _) (some ⟨wr.heap.size + 1, 0, none⟩) 1 1 [y] rfl (rd_of_blk (cs := bools [y]) (blk_made1 wr _ 4 #[.bool y]) 1 1 rfl) (by omega) (by simp; omega) ?_)
    intro A9 c9 u9 hown9 hgr9
    have HO9 := Lib.hid (show u9.ownsRow w2.heap.size 4 1 (.slice A9 (i + 1) c9) (i + 1) (bools ((N.hs.map (·.2)).take (i + 1))) from by rw [HNX.out]; exact hown9)
    have HB9 := Lib.hid ((below_then (below_then B1.out B2) (below_new _ _)).grown hgr9 (below_then (below_then B1.out B2) (below_new _ _)).size (fun q hq => own_base O1.out hq))
    clear hown9 hgr9 y1 e2 e3
    go_wp2_with fail
    go_roundw
    case rel => exact ⟨i + 1, A9, c9, by omega, by go_num, rfl, HO9.out, HB9.out⟩
    case measure => simp [intOf]; omega
end Go.Proofs.YtaajnmggbhnndaaGreatDoor
