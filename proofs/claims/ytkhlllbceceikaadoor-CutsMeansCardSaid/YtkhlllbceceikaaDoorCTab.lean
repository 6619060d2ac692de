/- cuts.table. -/
import Derived.Test.YtkhlllbceceikaaDoorNode
import Derived.Carry
namespace Go.Proofs.YtkhlllbceceikaaDoor
open Go.RowKit Go.Maps
set_option linter.unusedVariables false
set_option linter.unusedSimpArgs false

/-- the package's row of columns, as it was laid -/
def COLS (w : World) : Prop := 0 < w.heap.size ∧ ∀ i, i < 6 → w.cell? ⟨0, i, none⟩ = some (.int .u64 (Cut.col i : Int))
theorem COLS.below {w w' : World} (h : COLS w) (hb : Below w.heap.size w w') : COLS w' := ⟨Nat.lt_of_lt_of_le h.1 hb.size, fun i hi => (hb.cell (p := ⟨0, i, none⟩) h.1).trans (h.2 i hi)⟩
theorem col_lt (i : Nat) : Cut.col i < 18446744073709551616 := by
  unfold Cut.col
  split <;> decide
theorem known_lt (l : List Int) : ∀ k n v, Cut.knownTo l Cut.col k n = some v → v < 18446744073709551616
  | 0, n, v, h => by
    simp only [Cut.knownTo] at h
    split at h
    · cases h; omega
    · cases h
  | k + 1, n, v, h => by
    simp only [Cut.knownTo, Cut.upd] at h
    split at h
    · cases h; exact col_lt _
    · exact known_lt l k n v h
theorem start_upd (l : List Int) : Cut.upd (fun _ => none) 0 0 = Cut.knownTo l Cut.col 0 := by
  funext n
  simp [Cut.upd, Cut.knownTo]
theorem tabG_lt (G : AG) (l : List Int) : ∀ n v, G.tabG l n = some v → v < 18446744073709551616 := tab_lt (fun n v h => known_lt l _ n v h)
theorem table_optV (G : AG) (l : List Int) (n : Nat) : optV (G.table l n) = optV (G.tabG l n) &&& Cut.rows l.length := by
  unfold AG.table optV
  cases G.tabG l n <;> simp
theorem table_isSome (G : AG) (l : List Int) (n : Nat) : (G.table l n).isSome = (G.tabG l n).isSome := by
  unfold AG.table
  cases G.tabG l n <;> rfl
def CTabOut (o : Option Nat) (w : World) (r : Ending) (w' : World) : Prop := r = .returned (.tuple #[.int .u64 (optV o : Int), .bool o.isSome]) ∧ Below w.heap.size w w'
set_option maxRecDepth 100000 in
set_option maxHeartbeats 2000000 in
theorem ctable_any (G : AG) (A : Option Addr) (c : Nat) (l : List Int) (n : Nat) (w : World) (hin : G.In w) (hf : G.fit) (hok : G.ok) (hr : Rd w 1 A l.length c (ints l)) (hl : leavesB G.cnt l = true) (hn : n < G.cn) (hcols : COLS w) :
    Calls Tryd.prog 35 #[.agg #[.int .i64 G.I, .slice G.AF G.fl.length G.cF, .slice G.AA G.an.length G.cA, .slice G.AO G.ou.length G.cO], .int .i64 (n : Int), .slice A l.length c] w (CTabOut (G.table l n) w) := by
  unfold CTabOut
  rw [table_optV, table_isSome]
  have hl6 := leavesB_len hl
  have HNODE := Lib.hid (fun (b B : Nat) (hbB : b ≠ B) (hB0 : w.heap.size ≤ B) (cap : Nat) (W : World) (hW : Below w.heap.size w W) (hC : CONE G B b W) (hM : MapM W B cap (Cut.known l Cut.col)) (hcap : cap ≤ 10) =>
    node_any G hok hf (G.tabG l) (tabG_lt G l) (Cut.known l Cut.col) rfl w hin b B hbB hB0 n hn cap (Cut.known l Cut.col) W hW hC hM (fun _ _ h => h) (fun x v h => Cut.tab_known h) (by have := unk_le G.cn (Cut.known l Cut.col); have : G.cn ≤ 3001 := by { have := hf.i; have := hf.f; have := hf.a; have := hok.1; unfold AG.cn AG.fst; omega }; omega))
  have HROW := Lib.hid (fun (W : World) => rows_any l.length W hl6)
  have hTL : optV (G.tabG l n) < 18446744073709551616 := by
    cases h : G.tabG l n with
    | none => decide
    | some v => exact tabG_lt G l n v h
  have hmem : ∀ i, i < l.length → 1 ≤ l.getD i 0 ∧ l.getD i 0 ≤ 3001 := fun i hi => by
    have h := leavesB_mem hl hi
    have h2 := hf.i; have h3 := hf.f; have h4 := hf.a
    unfold AG.cnt at h
    omega
  have HMEM := Lib.hid hmem
  have hfst : 1 + G.I + (G.fl.length : Int) = (G.fst : Int) := hok.firstN
  have hFle : G.fst ≤ 2001 := by unfold AG.fst; have := hf.i; have := hf.f; have := hok.1; omega
  have HAND := u64_and_nat (optV (G.tabG l n)) (Cut.rows l.length) hTL (Cut.rows_lt _ hl6)
  have HR := Lib.hid hr
  have HCO := Lib.hid hcols
  obtain ⟨o, ho⟩ : ∃ o, G.tabG l n = o := ⟨_, rfl⟩
  have HOO := Lib.hid ho
  rw [ho] at HAND hTL ⊢
  clear ho
  obtain ⟨R, hR⟩ : ∃ R, Cut.rows l.length = R := ⟨_, rfl⟩
  rw [hR] at HAND HROW ⊢
  obtain ⟨AF, hAF⟩ : ∃ A, G.AF = A := ⟨_, rfl⟩
  obtain ⟨AA, hAA⟩ : ∃ A, G.AA = A := ⟨_, rfl⟩
  obtain ⟨AO, hAO⟩ : ∃ A, G.AO = A := ⟨_, rfl⟩
  have hI := hok.1
  have hI2 := hf.i
  have hI3 := hf.f
  clear hR hin hok hr hl hcols hmem hf
  obtain ⟨w2, hmu, hm2, hg2⟩ := (MapM.made (w.alloc (.cells #[.int .i64 G.I, .slice G.AF G.fl.length G.cF, .slice G.AA G.an.length G.cA, .slice G.AO G.ou.length G.cO] 26))).update (by unfold maxLen; omega) 0 0 (by omega) (by omega)
  have B1 := below_then (below_new w (.cells #[.int .i64 G.I, .slice G.AF G.fl.length G.cF, .slice G.AA G.an.length G.cA, .slice G.AO G.ou.length G.cO] 26)) (below_new _ (.map #[] 0))
  have B2 := Lib.hid ((Chg.of_grown hg2).below B1 B1.size (fun k hk => by simp at hk; omega))
  have hm20 : MapM w2 (w.heap.size + 1) 1 (Cut.knownTo l Cut.col 0) := by have h := hm2; rw [World.size_alloc, start_upd l] at h; exact h
  have HM2 := Lib.hid hm20
  rw [World.size_alloc] at hmu
  have hmm := @run_makeMap Tryd.prog
  have hmu0 : (Instr.mapUpdate 85 (.map (some (w.heap.size + 1))) (.int .i64 0) (.int .u64 0)).run Tryd.prog ((w.alloc (.cells #[.int .i64 G.I, .slice G.AF G.fl.length G.cF, .slice G.AA G.an.length G.cA, .slice G.AO G.ou.length G.cO] 26)).alloc (.map #[] 0)) = .ok () w2 := hmu
  have HCONE := Lib.hid (show CONE G (w.heap.size + 1) w2.heap.size (w2.alloc (.cells #[.int .i64 G.I, .slice AF G.fl.length G.cF, .slice AA G.an.length G.cA, .slice AO G.ou.length G.cO, .int .i64 (G.fst : Int), .map (some (w.heap.size + 1))] 87)) from by
    unfold CONE; rw [hAF, hAA, hAO]; exact Blk.made w2 _ _)
  have hz2 : w.heap.size + 2 ≤ w2.heap.size := by have h := hg2.size; simpa using h
  clear hmu hg2 B1 hm2 hm20
  rw [hAF, hAA, hAO] at hmu0 ⊢
  go_enter Tryd.func35, Tryd.ntmps35
  go_wp2_with fail
  go_loopw [27] (fun i wx => ∃ k : Nat, k ≤ l.length ∧ i = .int .i64 (k : Int) ∧ MapM wx (w.heap.size + 1) (k + 1) (Cut.knownTo l Cut.col k) ∧ CONE G (w.heap.size + 1) w2.heap.size wx ∧ Below w.heap.size w wx) (fun i _ => l.length - (intOf i).toNat)
  case atStart => exact ⟨0, by omega, rfl, HM2.out.below (below_new _ _), HCONE.out, below_then B2.out (below_new _ _)⟩
  case round =>
    obtain ⟨k, hk, rfl, hm, hc, hb⟩ := hrel
    have M3 := Lib.hid hm
    have C3 := Lib.hid hc
    have B3 := Lib.hid hb
    clear hm hc hb hmu0 HCONE
    by_cases hlt : k < l.length
    case neg =>
      obtain rfl : k = l.length := by omega
      go_wp2_with fail
      refine (HNODE.out w2.heap.size (w.heap.size + 1) (by omega) (by omega) (l.length + 1) wr B3.out C3.out M3.out (by omega)).mono ?_
      rintro e w6 ⟨rfl, cap6, M6, hS6⟩
      have B6 := Lib.hid (hS6.chg.below B3.out B3.out.size (fun k hk => by omega))
      clear hS6
      rw [HOO.out]
      go_wp2_with (go_at_call 52; refine (HROW.out _).mono ?_; rintro e w7 ⟨rfl, rfl⟩)
      go_ret2
      exact ⟨rfl, B6.out⟩
    have hx0 := HMEM.out k hlt
    obtain ⟨x, hx⟩ : ∃ x : Nat, l.getD k 0 = (x : Int) := ⟨(l.getD k 0).toNat, by omega⟩
    obtain ⟨pa, hA, hab, d0⟩ := (HR.out.later B3.out).int (k := k) hlt
    have c5 := C3.out.cell 5
    have e0 := (HCO.out.below B3.out).2 k (by omega)
    have e1 := (HCO.out.below B3.out).1
    have hlt' : (k : Int) < (l.length : Int) := by omega
    have hlt6 : (k : Int) < 6 := by omega
    rw [hx] at d0 hx0
    subst hA
    clear HM2 HCO B2
    have hm9 : MapM wr.drew (w.heap.size + 1) (k + 1) (Cut.knownTo l Cut.col k) := M3.out.below (below_drewN (Below.refl _ _) 1)
    obtain ⟨w7, hmu, hm7, hg7⟩ := hm9.update (by unfold maxLen; omega) x (Cut.col k) (by omega) (col_lt k)
    have hchg : Chg wr.drew w7 fun q => q = w.heap.size + 1 := (Chg.of_grown hg7).mono' (fun k hk => by simpa using hk)
    have B9 := below_drewN B3.out 1
    have hm8 : MapM w7 (w.heap.size + 1) (k + 2) (Cut.knownTo l Cut.col (k + 1)) := by
      have h := hm7
      simp only [Cut.knownTo, hx, Int.toNat_natCast]
      exact h
    have M7 := Lib.hid hm8
    have B7 := Lib.hid (hchg.below B9 B9.size (fun k hk => by omega))
    have C7 := Lib.hid (show CONE G (w.heap.size + 1) w2.heap.size w7 from hchg.blk (C3.out.below (below_drewN (Below.refl _ _) 1) C3.out.lt) (by omega))
    clear hm9 hm7 hg7 hchg B9 hm8 hx
    go_wp2_with fail
    go_region
    go_wp2_with fail
    go_roundw
    case rel => exact ⟨k + 1, by omega, by go_num, M7.out, C7.out, B7.out⟩
    case measure => simp [intOf]; omega
end Go.Proofs.YtkhlllbceceikaaDoor
