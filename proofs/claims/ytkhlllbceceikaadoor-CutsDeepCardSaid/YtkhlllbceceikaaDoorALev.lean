/- filigree/aig.Levels: how deep each node of gates is. -/
import Derived.Test.YtkhlllbceceikaaDoorAigD
import Derived.Test.YtkhlllbceceikaaDoorTabP
import Derived.Test.YtkhlllbceceikaaDoorBothM
namespace Go.Proofs.YtkhlllbceceikaaDoor
open Go.RowKit
set_option linter.unusedVariables false
set_option linter.unusedSimpArgs false
/-- the levels of the nodes ahead of gate i -/
def AG.levTo (G : AG) : Nat → List Int
  | 0 => List.replicate G.fst 0
  | i + 1 => G.levTo i ++ [1 + max ((G.levTo i).getD ((G.ands.getD i (0, 0)).1 / 2) 0) ((G.levTo i).getD ((G.ands.getD i (0, 0)).2 / 2) 0)]
theorem AG.levTo_len (G : AG) : ∀ i, (G.levTo i).length = G.fst + i
  | 0 => by simp [AG.levTo]
  | i + 1 => by simp [AG.levTo, G.levTo_len i]; omega
theorem AG.levTo_pre (G : AG) {j : Nat} : ∀ {i : Nat}, j ≤ i → ∀ x, x < G.fst + j → (G.levTo i).getD x 0 = (G.levTo j).getD x 0
  | 0, h, x, hx => by obtain rfl : j = 0 := by omega
                      rfl
  | i + 1, h, x, hx => by
    rcases Nat.lt_or_ge j (i + 1) with h1 | h1
    · rw [← G.levTo_pre (show j ≤ i by omega) x hx]
      exact getD_left _ _ _ (by rw [G.levTo_len]; omega)
    · obtain rfl : j = i + 1 := by omega
      rfl
/-- a node's level -/
def AG.lev (G : AG) (j : Nat) : Int := (G.levTo G.an.length).getD j 0
theorem AG.levTo_bound (G : AG) : ∀ i x, 0 ≤ (G.levTo i).getD x 0 ∧ (G.levTo i).getD x 0 ≤ (i : Int)
  | 0, x => by
    have : (G.levTo 0).getD x 0 = 0 := by
      simp only [AG.levTo, List.getD_eq_getElem?_getD, List.getElem?_replicate]
      split <;> rfl
    omega
  | i + 1, x => by
    have h1 := G.levTo_bound i ((G.ands.getD i (0, 0)).1 / 2)
    have h2 := G.levTo_bound i ((G.ands.getD i (0, 0)).2 / 2)
    rcases Nat.lt_or_ge x (G.levTo i).length with h | h
    · have h3 := G.levTo_bound i x
      have : (G.levTo (i + 1)).getD x 0 = (G.levTo i).getD x 0 := getD_left _ _ _ h
      omega
    · rcases Nat.eq_or_lt_of_le h with h | h
      · have : (G.levTo (i + 1)).getD x 0 = 1 + max ((G.levTo i).getD ((G.ands.getD i (0, 0)).1 / 2) 0) ((G.levTo i).getD ((G.ands.getD i (0, 0)).2 / 2) 0) := by
          rw [AG.levTo, List.getD_eq_getElem?_getD, List.getElem?_append_right (by omega), h, Nat.sub_self]; rfl
        omega
      · have : (G.levTo (i + 1)).getD x 0 = 0 := by
          rw [List.getD_eq_getElem?_getD, List.getElem?_eq_none (by rw [G.levTo_len] at h ⊢; omega)]; rfl
        omega
theorem AG.lev_gate {G : AG} (hok : G.ok) (i a b : Nat) (hg : G.ands[i]? = some (a, b)) : G.lev (G.fst + i) = max (G.lev (a / 2)) (G.lev (b / 2)) + 1 := by
  have hi : i < G.an.length := by
    have := (List.getElem?_eq_some_iff.1 hg).1
    simpa [AG.ands] using this
  obtain ⟨a', b', -, hgs, ha, hb, -, -⟩ := hok.gate hi
  rw [hg] at hgs
  obtain ⟨rfl, rfl⟩ := Prod.mk.inj (Option.some.inj hgs)
  unfold AG.lev
  rw [G.levTo_pre (show i + 1 ≤ G.an.length by omega) _ (by omega), G.levTo_pre (show i ≤ G.an.length by omega) _ ha, G.levTo_pre (show i ≤ G.an.length by omega) _ hb]
  have e : G.ands.getD i (0, 0) = (a, b) := by rw [List.getD_eq_getElem?_getD, hg]; rfl
  rw [AG.levTo, List.getD_eq_getElem?_getD, List.getElem?_append_right (by rw [G.levTo_len]; exact Nat.le_refl _), G.levTo_len, Nat.sub_self, e]
  show 1 + max ((G.levTo i).getD (a / 2) 0) ((G.levTo i).getD (b / 2) 0) = _
  omega
theorem int_cells (n : Int) : (Value.int .i64 n).cells = #[.int .i64 n] := rfl
/-- a row is made, with room behind it -/
theorem wpList_make_part {P : Program} (w : World) {ops : Array Oper} {rest : List Oper} {o : Oper} {a : Act} {Q : Exit → Act → World → Prop}
    (hg : o.guard = none) (l c : Operand) (t : TypeId) (hop : o.op = Op.makeSlice t l c) (e : TypeId) (i : TypeInfo) (z : Value) (h1 : P.underlying t = some (.slice e)) (h2 : P.info? e = some i) (h3 : i.zero = some z) (h4 : i.size = 1) (hz : z.cells = #[z])
    (kl kc : IntKind) (L C : Int) (n m : Nat) (hl : a.eval l = .int kl L) (hc : a.eval c = .int kc C) (hL : L = (n : Int)) (hC : C = (m : Int)) (hnm : n ≤ m) (b2 : i.bytes * m ≤ 281474976710656) (b3 : m ≤ 100000000)
    (hK : ∀ w', w'.ownsRow w.heap.size e 1 (.slice (some ⟨w.heap.size, 0, none⟩) n m) n (List.replicate n z) → Below w.heap.size w w' → wpList P ops Q rest (a.put o.dst (.slice (some ⟨w.heap.size, 0, none⟩) n m)) w') :
    wpList P ops Q (o :: rest) a w := by
  refine wpList_plain hg fun K hK' => ?_
  subst hL
  subst hC
  have hrun := run_make (P := P) w t e i z h1 h2 h3 kl kc (n : Int) (m : Int) (by omega) (by omega) (by rw [← Int.natCast_mul]; omega) (by omega)
  unfold Oper.wp
  simp [execOp, hop, hl, hc, hrun, Result.andThen, h4, hz]
  refine hK' _ _ (hK _ ?_ (below_new w _))
  rw [made_eq]
  refine ⟨by simp, .inr ⟨w.heap.size, m, (List.replicate m z).toArray, rfl, Nat.le_refl _, heap_alloc_new w _, hnm, by unfold maxLen; omega, by simp, ?_⟩⟩
  simp [Nat.min_eq_left hnm]
set_option maxRecDepth 100000 in
set_option maxHeartbeats 1000000 in
theorem alevels_no (G : AG) (w : World) (hin : G.In w) (hf : G.fit) (hw : G.wf) (hok : ¬ G.ok) :
    Calls Tryd.prog 30 #[.agg #[.int .i64 G.I, .slice G.AF G.fl.length G.cF, .slice G.AA G.an.length G.cA, .slice G.AO G.ou.length G.cO]] w fun r w' => r = .returned (.tuple #[.slice none 0 0, .int .i64 1]) ∧ Below w.heap.size w w' := by
  have HIN := Lib.hid hin
  have HW := Lib.hid hw
  have HF := Lib.hid hf
  have HE := Lib.hid (show G.E = 1 from if_neg hok)
  have Q0 := Lib.hid (below_new w (.cells #[.int .i64 G.I, .slice G.AF G.fl.length G.cF, .slice G.AA G.an.length G.cA, .slice G.AO G.ou.length G.cO] 26))
  clear hin hf hw hok
  go_enter Tryd.func30, Tryd.ntmps30
  go_wp2_with fail
  refine (begin_any G _ (HIN.out.later Q0.out) HF.out HW.out).mono ?_
  rintro e w2 ⟨b, rfl, hb2, hwk⟩
  rw [HE.out] at hwk
  have B2 := Lib.hid (below_then Q0.out hb2)
  have c4 := hwk.cell 4
  clear hb2
  go_wp2_with fail
  go_quiet (fail)
  go_wp2_with fail
  go_ret2
  exact ⟨rfl, below_drewN B2.out _⟩
set_option maxRecDepth 100000 in
set_option maxHeartbeats 4000000 in
theorem alevels_yes (G : AG) (w : World) (hin : G.In w) (hf : G.fit) (hw : G.wf) (hok : G.ok) :
    Calls Tryd.prog 30 #[.agg #[.int .i64 G.I, .slice G.AF G.fl.length G.cF, .slice G.AA G.an.length G.cA, .slice G.AO G.ou.length G.cO]] w fun r w' => ∃ A c, r = .returned (.tuple #[.slice A G.cn c, .int .i64 0]) ∧ Below w.heap.size w w' ∧ Rd w' 1 A G.cn c (ints (G.levTo G.an.length)) := by
  have HIN := Lib.hid hin
  have HW := Lib.hid hw
  have HF := Lib.hid hf
  have HOK := Lib.hid hok
  have HE := Lib.hid (show G.E = 0 from if_pos hok)
  have Q0 := Lib.hid (below_new w (.cells #[.int .i64 G.I, .slice G.AF G.fl.length G.cF, .slice G.AA G.an.length G.cA, .slice G.AO G.ou.length G.cO] 26))
  obtain ⟨q, hq⟩ : ∃ q : Nat, G.cnt = (q : Int) := ⟨G.cnt.toNat, by have := hok.1; unfold AG.cnt; omega⟩
  have hq1 : q + 1 = G.cn := by have := hok.cnt; omega
  obtain ⟨F, hF⟩ : ∃ F, G.fst = F := ⟨_, rfl⟩
  obtain ⟨n, hn⟩ : ∃ n, G.an.length = n := ⟨_, rfl⟩
  have hFn : q + 1 = F + n := by rw [hq1, ← hF, ← hn]; rfl
  have HFF := Lib.hid hF
  have HN := Lib.hid hn
  have hqle : q ≤ 3000 := by have := hf.i; have := hf.f; have := hf.a; unfold AG.cnt at hq; omega
  have H1 := Lib.hid (fun (e : Int) (b : Nat) (W : World) (hb : AWK G e W b) => first_any G e b W hb hok.1 hf)
  have H2 := Lib.hid (fun (e : Int) (b : Nat) (W : World) (hb : AWK G e W b) => count_any G e b W hb hok.1 hf)
  rw [hok.firstN, hF] at H1
  rw [hq] at H2
  have HCN := Lib.hid hq1
  clear hin hf hw hok hq hq1 hF hn
  go_enter Tryd.func30, Tryd.ntmps30
  go_wp2_with fail
  refine (begin_any G _ (HIN.out.later Q0.out) HF.out HW.out).mono ?_
  rintro e w2 ⟨b, rfl, hb2, hwk⟩
  rw [HE.out] at hwk
  have K2 := Lib.hid hwk
  have B2 := Lib.hid (below_then Q0.out hb2)
  have c4 := hwk.cell 4
  clear hb2 hwk
  go_wp2_with fail
  refine (H1.out 0 b _ K2.out).mono ?_
  rintro e w3 ⟨rfl, hb3⟩
  have B3 := Lib.hid (below_then B2.out hb3)
  have K3 := Lib.hid (K2.out.keep hb3)
  clear hb3 c4
  go_wp2_with fail
  refine (H2.out 0 b _ K3.out).mono ?_
  rintro e w4 ⟨rfl, hb4⟩
  have B4 := Lib.hid (below_then B3.out hb4)
  have K4 := Lib.hid (K3.out.keep hb4)
  clear hb4
  obtain ⟨i0, hi0, hz0, hz1, hz2⟩ := info_parts int_info
  have HI0 := Lib.hid hi0
  have HZ0 := Lib.hid hz0
  have HZ1 := Lib.hid hz1
  have HZ2 := Lib.hid hz2
  clear hi0 hz0 hz1 hz2
  have hqi : (q : Int) + 1 = ((q + 1 : Nat) : Int) := by omega
  obtain ⟨m, hm⟩ : ∃ m : Nat, q + 1 = m := ⟨_, rfl⟩
  rw [hm] at hqi hFn HCN
  have HFN := Lib.hid hFn
  have hFm : F ≤ m := by omega
  have hm3 : m ≤ 3001 := by omega
  clear hFn
  go_wp2_with ((with_reducible refine wpList_make_part _ rfl (.tmp 20) (.tmp 23) 24 rfl 3 i0 (.int .i64 0) Tryd.underlying24 HI0.out HZ0.out HZ1.out (int_cells 0) .i64 .i64 (F : Int) (m : Int) F m rfl rfl rfl rfl hFm ?c1 (by omega) ?_))
  case c1 => rw [HZ2.out]; omega
  intro w5 hown5 hb5
  have B5 := Lib.hid (below_then B4.out hb5)
  have K5 := Lib.hid (K4.out.keep hb5)
  have O5 := Lib.hid (show w5.ownsRow w.heap.size 3 1 (.slice (some ⟨w4.heap.size, 0, none⟩) F m) F (ints (G.levTo 0)) from by
    have h := own_down hown5 B4.out.size
    rw [← HFF.out] at h ⊢
    have e : ints (G.levTo 0) = List.replicate G.fst (Value.int .i64 0) := by simp [ints, AG.levTo]
    rw [e]; exact h)
  clear hb5 hown5
  have c2 : w5.cell? ⟨b, 2, none⟩ = some (.slice G.AA G.an.length G.cA) := K5.out.cell 2
  rw [HN.out] at c2
  obtain ⟨AA, hAA⟩ : ∃ A, G.AA = A := ⟨_, rfl⟩
  have HAA := Lib.hid hAA
  rw [hAA] at c2
  clear hAA hm
  go_wp2_with fail
  go_loopw [5, 31] (fun v5 v31 wx => ∃ (i : Nat) (A : Option Addr) (c : Nat), i ≤ n ∧ v31 = .int .i64 (i : Int) ∧ v5 = .slice A (F + i) c ∧ wx.ownsRow w.heap.size 3 1 (.slice A (F + i) c) (F + i) (ints (G.levTo i)) ∧ Below w.heap.size w wx) (fun _ v31 _ => n - (intOf v31).toNat)
  case atStart => exact ⟨0, _, _, by omega, rfl, rfl, O5.out, B5.out⟩
  case round =>
    obtain ⟨i, A, c, hi, rfl, rfl, hown, hB⟩ := hrel
    have hFn3 : F + n ≤ 3001 := by rw [← HFN.out]; exact hm3
    have B6 := Lib.hid hB
    have O6 := Lib.hid hown
    clear hown hB
    by_cases hin : i < n
    case neg =>
      obtain rfl : i = n := by omega
      have hlt : ¬ (i : Int) < (i : Int) := by omega
      go_wp2_with fail
      go_ret2
      refine ⟨A, c, ?_, B6.out, ?_⟩
      · rw [← HCN.out, HFN.out]; rfl
      · rw [HN.out, ← HCN.out, HFN.out]; exact Rd.of_own O6.out
    have hin' : (i : Int) < (n : Int) := by omega
    have hia : i < G.an.length := by rw [HN.out]; exact hin
    obtain ⟨a, b', hg, hgs, ha, hb, hal, hbl⟩ := HOK.out.gate hia
    obtain ⟨pa, hPA, hpb, e0, e1⟩ := HIN.out.an.two (pc_get G.an i hia).1 (pc_get G.an i hia).2
    rw [hg] at e0 e1
    rw [HAA.out] at hPA
    subst hPA
    obtain ⟨ga, hga⟩ : ∃ p, pa.add (i * 2) = p := ⟨_, rfl⟩
    have hgab : ga.block < w.heap.size := by rw [← hga, add_block]; exact hpb
    rw [hga] at e0 e1
    have e2 : wr.cell? ga = some (.int .i64 (a : Int)) := (B6.out.cell hgab).trans e0
    have e3 : wr.cell? ⟨ga.block, ga.off + 1, none⟩ = some (.int .i64 (b' : Int)) := (B6.out.cell (p := ⟨ga.block, ga.off + 1, none⟩) hgab).trans e1
    rw [HFF.out] at ha hb
    obtain ⟨a2, ha2⟩ : ∃ d, a / 2 = d := ⟨_, rfl⟩
    obtain ⟨b2, hb2⟩ : ∃ d, b' / 2 = d := ⟨_, rfl⟩
    have hae : (a : Int) / 2 = (a2 : Int) := by omega
    have hbe : (b' : Int) / 2 = (b2 : Int) := by omega
    have hnx : G.levTo (i + 1) = G.levTo i ++ [1 + max ((G.levTo i).getD a2 0) ((G.levTo i).getD b2 0)] := by
      rw [AG.levTo, show G.ands.getD i (0, 0) = (a, b') by rw [List.getD_eq_getElem?_getD, hgs]; rfl, ha2, hb2]
    have HNX := Lib.hid hnx
    rw [ha2] at ha
    rw [hb2] at hb
    have hll := G.levTo_len i
    rw [HFF.out] at hll
    obtain ⟨gl, hA, d0⟩ := own_cell O6.out ha
    obtain ⟨gl2, hA2, d1⟩ := own_cell O6.out hb
    subst hA
    obtain rfl : gl = gl2 := by injection (Option.some.inj hA2)
    have hva := G.levTo_bound i a2
    have hvb := G.levTo_bound i b2
    obtain ⟨-, hglb⟩ := O6.out.lt gl rfl
    clear e0 e1 hg hgs hll ha2 hb2 hA2 hnx hal hbl
    go_wp2_with fail
    have X7 := Lib.hid (Blk.made wr 50 #[.int .i64 (a : Int), .int .i64 (b' : Int)])
    have B7 := Lib.hid (below_then B6.out (below_new wr (.cells #[.int .i64 (a : Int), .int .i64 (b' : Int)] 50)))
    have O7 := Lib.hid (O6.out.alloc (.cells #[.int .i64 (a : Int), .int .i64 (b' : Int)] 50))
    have m0 : (wr.alloc (.cells #[.int .i64 (a : Int), .int .i64 (b' : Int)] 50)).cell? ⟨gl, a2, none⟩ = some (.int .i64 ((G.levTo i).getD a2 0)) := ((below_new wr _).cell (p := ⟨gl, a2, none⟩) hglb).trans d0
    have m1 : (wr.alloc (.cells #[.int .i64 (a : Int), .int .i64 (b' : Int)] 50)).cell? ⟨gl, b2, none⟩ = some (.int .i64 ((G.levTo i).getD b2 0)) := ((below_new wr _).cell (p := ⟨gl, b2, none⟩) hglb).trans d1
    generalize hgx : wr.heap.size = gx at X7 ⊢
    generalize wr.alloc (.cells #[.int .i64 (a : Int), .int .i64 (b' : Int)] 50) = w7 at X7 B7 O7 m0 m1 ⊢
    have x0 := X7.out.cell 0
    have x1 := X7.out.cell 1
    generalize (G.levTo i).getD a2 0 = va at m0 hva HNX
    generalize (G.levTo i).getD b2 0 = vb at m1 hvb HNX
    obtain ⟨hva0, hva1⟩ := hva
    obtain ⟨hvb0, hvb1⟩ := hvb
    have hwa : IntKind.i64.wrap (a2 : Int) = (a2 : Int) := IntWalk.i64_in _ (by omega)
    have hwb : IntKind.i64.wrap (b2 : Int) = (b2 : Int) := IntWalk.i64_in _ (by omega)
    have hla : (a2 : Int) < (F : Int) + (i : Int) := by omega
    have hlb : (b2 : Int) < (F : Int) + (i : Int) := by omega
    have hta : (a : Int).tdiv 2 = (a2 : Int) := by rw [Int.tdiv_eq_ediv_of_nonneg (by omega)]; exact hae
    have htb : (b' : Int).tdiv 2 = (b2 : Int) := by rw [Int.tdiv_eq_ediv_of_nonneg (by omega)]; exact hbe
    have hmx : IntKind.i64.wrap (1 + max va vb) = 1 + max va vb := IntWalk.i64_in _ (by omega)
    clear d0 d1 e2 e3 O6 B6 hgx
    refine wp_region_held_drew (S := (fun _ => True)) (by kernel_rfl) ?_ (fun hHeld => ?_)
    · trivial
    refine wpAnyH_take (i := 0) (oi := { dst := some 35, op := Op.move (Operand.tmp 5), type := 24, pos := _, after := #[], guard := none }) (v := ?_) rfl (by kernel_rfl) (by kernel_rfl) (by kernel_rfl) (fun _ _ _ h => h) (Or.inl ⟨by rfl, ?_⟩) (by assumption) ?_
    rotate_left
    · intro w hSw; (try dsimp only at hSw); go_simp; (try with_reducible rfl)
    try simp only [Act.put, List.setIfInBounds_toArray, List.set_cons_zero, List.set_cons_succ]
    refine wpAnyH_take (i := 1) (oi := { dst := some 36, op := Op.move (Operand.tmp 5), type := 24, pos := _, after := #[], guard := none }) (v := ?_) rfl (by kernel_rfl) (by kernel_rfl) (by kernel_rfl) (fun _ _ _ h => h) (Or.inl ⟨by rfl, ?_⟩) (by assumption) ?_
    rotate_left
    · intro w hSw; (try dsimp only at hSw); go_simp; (try with_reducible rfl)
    try simp only [Act.put, List.setIfInBounds_toArray, List.set_cons_zero, List.set_cons_succ]
    refine wpAnyH_take (i := 2) (oi := { dst := some 37, op := Op.indexAddr 50 (Operand.tmp 7) (Operand.const (Value.int IntKind.i64 0)), type := 0, pos := _, after := #[], guard := none }) (v := ?_) rfl (by kernel_rfl) (by kernel_rfl) (by kernel_rfl) (fun _ _ _ h => h) (Or.inl ⟨by rfl, ?_⟩) (by assumption) ?_
    rotate_left
    · intro w hSw; (try dsimp only at hSw); go_simp; (try with_reducible rfl)
    try simp only [Act.put, List.setIfInBounds_toArray, List.set_cons_zero, List.set_cons_succ]
    refine wpAnyH_take (i := 7) (oi := { dst := some 42, op := Op.move (Operand.tmp 5), type := 24, pos := _, after := #[], guard := none }) (v := ?_) rfl (by kernel_rfl) (by kernel_rfl) (by kernel_rfl) (fun _ _ _ h => h) (Or.inl ⟨by rfl, ?_⟩) (by assumption) ?_
    rotate_left
    · intro w hSw; (try dsimp only at hSw); go_simp; (try with_reducible rfl)
    try simp only [Act.put, List.setIfInBounds_toArray, List.set_cons_zero, List.set_cons_succ]
    refine wpAnyH_take (i := 8) (oi := { dst := some 43, op := Op.indexAddr 50 (Operand.tmp 7) (Operand.const (Value.int IntKind.i64 1)), type := 0, pos := _, after := #[], guard := none }) (v := ?_) rfl (by kernel_rfl) (by kernel_rfl) (by kernel_rfl) (fun _ _ _ h => h) (Or.inl ⟨by rfl, ?_⟩) (by assumption) ?_
    rotate_left
    · intro w hSw; (try dsimp only at hSw); go_simp; (try with_reducible rfl)
    try simp only [Act.put, List.setIfInBounds_toArray, List.set_cons_zero, List.set_cons_succ]
    refine wpAnyH_ready (rs := [3, 9]) (by kernel_rfl) (by simp) ?_
    refine AllReadyH.cons (o := { dst := some 38, op := Op.load 3 (Operand.tmp 37), type := 3, pos := _, after := #[{ on := 2, ground := Ground.data }], guard := none }) rfl (fun K hK => ?_) (AllReadyH.cons (o := { dst := some 44, op := Op.load 3 (Operand.tmp 43), type := 3, pos := _, after := #[{ on := 8, ground := Ground.data }], guard := none }) rfl (fun K hK => ?_) AllReadyH.nil)
    · skip
      go_simp
      refine hK.out _ _ ?_ (fun hHeld => ?_)
      · trivial
      clear hK K
      try simp only [Act.put, List.setIfInBounds_toArray, List.set_cons_zero, List.set_cons_succ]
      refine wpAnyH_take (i := 4) (oi := { dst := some 39, op := Op.binOp BinOp.quo 3 (Operand.tmp 38) (Operand.const (Value.int IntKind.i64 2)) 3, type := 3, pos := _, after := #[{ on := 3, ground := Ground.data }], guard := none }) (v := ?_) rfl (by kernel_rfl) (by kernel_rfl) (by kernel_rfl) (fun _ _ _ h => h) (Or.inl ⟨by rfl, ?_⟩) (by assumption) ?_
      rotate_left
      · intro w hSw; (try dsimp only at hSw); go_simp; (try with_reducible rfl)
      try simp only [Act.put, List.setIfInBounds_toArray, List.set_cons_zero, List.set_cons_succ]
      refine wpAnyH_take (i := 5) (oi := { dst := some 40, op := Op.indexAddr 24 (Operand.tmp 36) (Operand.tmp 39), type := 0, pos := _, after := #[{ on := 1, ground := Ground.data }, { on := 4, ground := Ground.data }], guard := none }) (v := ?_) rfl (by kernel_rfl) (by kernel_rfl) (by kernel_rfl) (fun _ _ _ h => h) (Or.inl ⟨by rfl, ?_⟩) (by assumption) ?_
      rotate_left
      · intro w hSw; (try dsimp only at hSw); go_simp; (try with_reducible rfl)
      try simp only [Act.put, List.setIfInBounds_toArray, List.set_cons_zero, List.set_cons_succ]
      refine wpAnyH_ready (rs := [6, 9]) (by kernel_rfl) (by simp) ?_
      refine AllReadyH.cons (o := { dst := some 41, op := Op.load 3 (Operand.tmp 40), type := 3, pos := _, after := #[{ on := 5, ground := Ground.data }], guard := none }) rfl (fun K hK => ?_) (AllReadyH.cons (o := { dst := some 44, op := Op.load 3 (Operand.tmp 43), type := 3, pos := _, after := #[{ on := 8, ground := Ground.data }], guard := none }) rfl (fun K hK => ?_) AllReadyH.nil)
      · skip
        go_simp
        refine hK.out _ _ ?_ (fun hHeld => ?_)
        · trivial
        clear hK K
        try simp only [Act.put, List.setIfInBounds_toArray, List.set_cons_zero, List.set_cons_succ]
        refine wpAnyH_ready (rs := [9]) (by kernel_rfl) (by simp) ?_
        refine AllReadyH.cons (o := { dst := some 44, op := Op.load 3 (Operand.tmp 43), type := 3, pos := _, after := #[{ on := 8, ground := Ground.data }], guard := none }) rfl (fun K hK => ?_) AllReadyH.nil
        go_simp
        refine hK.out _ _ ?_ (fun hHeld => ?_)
        · trivial
        clear hK K
        try simp only [Act.put, List.setIfInBounds_toArray, List.set_cons_zero, List.set_cons_succ]
        refine wpAnyH_take (i := 10) (oi := { dst := some 45, op := Op.binOp BinOp.quo 3 (Operand.tmp 44) (Operand.const (Value.int IntKind.i64 2)) 3, type := 3, pos := _, after := #[{ on := 9, ground := Ground.data }], guard := none }) (v := ?_) rfl (by kernel_rfl) (by kernel_rfl) (by kernel_rfl) (fun _ _ _ h => h) (Or.inl ⟨by rfl, ?_⟩) (by assumption) ?_
        rotate_left
        · intro w hSw; (try dsimp only at hSw); go_simp; (try with_reducible rfl)
        try simp only [Act.put, List.setIfInBounds_toArray, List.set_cons_zero, List.set_cons_succ]
        refine wpAnyH_take (i := 11) (oi := { dst := some 46, op := Op.indexAddr 24 (Operand.tmp 42) (Operand.tmp 45), type := 0, pos := _, after := #[{ on := 7, ground := Ground.data }, { on := 10, ground := Ground.data }], guard := none }) (v := ?_) rfl (by kernel_rfl) (by kernel_rfl) (by kernel_rfl) (fun _ _ _ h => h) (Or.inl ⟨by rfl, ?_⟩) (by assumption) ?_
        rotate_left
        · intro w hSw; (try dsimp only at hSw); go_simp; (try with_reducible rfl)
        try simp only [Act.put, List.setIfInBounds_toArray, List.set_cons_zero, List.set_cons_succ]
        refine wpAnyH_ready (rs := [12]) (by kernel_rfl) (by simp) ?_
        refine AllReadyH.cons (o := { dst := some 47, op := Op.load 3 (Operand.tmp 46), type := 3, pos := _, after := #[{ on := 11, ground := Ground.data }], guard := none }) rfl (fun K hK => ?_) AllReadyH.nil
        go_simp
        refine hK.out _ _ ?_ (fun hHeld => ?_)
        · trivial
        clear hK K
        try simp only [Act.put, List.setIfInBounds_toArray, List.set_cons_zero, List.set_cons_succ]
        refine wpAnyH_take (i := 13) (oi := { dst := some 48, op := Op.call { callee := Callee.builtin Builtin.max, args := #[Operand.tmp 41, Operand.tmp 47], argTypes := #[3, 3] }, type := 3, pos := _, after := #[{ on := 6, ground := Ground.data }, { on := 12, ground := Ground.data }], guard := none }) (v := ?_) rfl (by kernel_rfl) (by kernel_rfl) (by kernel_rfl) (fun _ _ _ h => h) (Or.inl ⟨by rfl, ?_⟩) (by assumption) ?_
        rotate_left
        · intro w hSw; (try dsimp only at hSw); go_simp; (try with_reducible rfl)
        try simp only [Act.put, List.setIfInBounds_toArray, List.set_cons_zero, List.set_cons_succ]
        refine wpAnyH_take (i := 14) (oi := { dst := some 49, op := Op.binOp BinOp.add 3 (Operand.const (Value.int IntKind.i64 1)) (Operand.tmp 48) 3, type := 3, pos := _, after := #[{ on := 13, ground := Ground.data }], guard := none }) (v := ?_) rfl (by kernel_rfl) (by kernel_rfl) (by kernel_rfl) (fun _ _ _ h => h) (Or.inl ⟨by rfl, ?_⟩) (by assumption) ?_
        rotate_left
        · intro w hSw; (try dsimp only at hSw); go_simp; (try with_reducible rfl)
        try simp only [Act.put, List.setIfInBounds_toArray, List.set_cons_zero, List.set_cons_succ]
        refine wpAnyH_ready (rs := [15]) (by kernel_rfl) (by simp) ?_
        refine AllReadyH.cons (o := { dst := some 50, op := Op.buildSlice 24 1 #[(0, Operand.tmp 49)], type := 24, pos := _, after := #[{ on := 14, ground := Ground.data }], guard := none }) rfl (fun K hK => ?_) AllReadyH.nil
        go_simp
        refine hK.out _ _ ?_ (fun hHeld => ?_)
        · trivial
        clear hK K
        try simp only [Act.put, List.setIfInBounds_toArray, List.set_cons_zero, List.set_cons_succ]
        refine wpAnyH_ready (rs := [16]) (by kernel_rfl) (by simp) ?_
        refine AllReadyH.cons (o := { dst := some 51, op := Op.call { callee := Callee.builtin Builtin.append, args := #[Operand.tmp 35, Operand.tmp 50], argTypes := #[24, 24] }, type := 24, pos := _, after := #[{ on := 0, ground := Ground.data }, { on := 15, ground := Ground.data }], guard := none }) rfl (fun K hK => ?_) AllReadyH.nil
        have O8 := Lib.hid ((O7.out.drew).alloc (.cells #[.int .i64 (1 + max va vb)] 3))
        obtain ⟨A9, k9, u9, hrun9, hown9, hgr9, hat9⟩ := app_run 24 3 24 Tryd.underlying24 _ 1 8 int_infoA rfl (by decide) (by decide) w.heap.size (some ⟨gl, 0, none⟩) (F + i) c (ints (G.levTo i)) O8.out ⟨w7.drew.heap.size, 0, none⟩ 1 [.int .i64 (1 + max va vb)] (rd_of_blk (cs := [.int .i64 (1 + max va vb)]) (Blk.made w7.drew 3 #[.int .i64 (1 + max va vb)]) 1 1 rfl) (fun u hu => by rw [List.mem_singleton] at hu; subst hu; rfl) (by omega) (by have := B7.out.size; simp; omega)
        refine step_app_run (by rfl) (.tmp 35) (.tmp 50) 24 24 (by rfl) (.slice (some ⟨gl, 0, none⟩) (F + i) c) (.slice (some ⟨w7.heap.size, 0, none⟩) 1 1) (by rfl) (by rfl) hrun9 ?_
        refine hK.out _ _ ?_ (fun hHeld => ?_)
        · trivial
        clear hK K
        try simp only [Act.put, List.setIfInBounds_toArray, List.set_cons_zero, List.set_cons_succ]
        refine wpAnyH_ready (rs := [17]) (by kernel_rfl) (by simp) ?_
        refine AllReadyH.cons (o := { dst := some 5, op := Op.assign (Operand.tmp 51), type := 24, pos := _, after := #[{ on := 16, ground := Ground.data }, { on := 16, ground := Ground.chain }, { on := 0, ground := Ground.phase }, { on := 1, ground := Ground.phase }, { on := 2, ground := Ground.phase }, { on := 3, ground := Ground.phase }, { on := 4, ground := Ground.phase }, { on := 5, ground := Ground.phase }, { on := 6, ground := Ground.phase }, { on := 7, ground := Ground.phase }, { on := 8, ground := Ground.phase }, { on := 9, ground := Ground.phase }, { on := 10, ground := Ground.phase }, { on := 11, ground := Ground.phase }, { on := 12, ground := Ground.phase }, { on := 13, ground := Ground.phase }, { on := 14, ground := Ground.phase }, { on := 15, ground := Ground.phase }, { on := 16, ground := Ground.phase }], guard := none }) rfl (fun K hK => ?_) AllReadyH.nil
        go_simp
        refine hK.out _ _ ?_ (fun hHeld => ?_)
        · trivial
        clear hK K
        try simp only [Act.put, List.setIfInBounds_toArray, List.set_cons_zero, List.set_cons_succ]
        refine wpAnyH_done (by kernel_rfl) ?_ _
        have HO9 := Lib.hid (show u9.ownsRow w.heap.size 3 1 (.slice A9 (F + i + 1) k9) (F + i + 1) (ints (G.levTo (i + 1))) from by rw [HNX.out, ints_append]; exact hown9)
        have HB9 := Lib.hid ((below_then (below_drewN B7.out 1) (below_new w7.drew (.cells #[.int .i64 (1 + max va vb)] 3))).grown hgr9 (below_then (below_drewN B7.out 1) (below_new w7.drew (.cells #[.int .i64 (1 + max va vb)] 3))).size (fun q hq => own_base O8.out (by rw [own_blk]; exact hq)))
        clear hrun9 hown9 hgr9 hat9
        go_wp2_with fail
        go_roundw
        case rel => exact ⟨i + 1, A9, k9, by omega, by go_num, rfl, HO9.out, HB9.out⟩
        case measure => simp [intOf]; omega
      · skip
        go_simp
        refine hK.out _ _ ?_ (fun hHeld => ?_)
        · trivial
        clear hK K
        try simp only [Act.put, List.setIfInBounds_toArray, List.set_cons_zero, List.set_cons_succ]
        refine wpAnyH_take (i := 10) (oi := { dst := some 45, op := Op.binOp BinOp.quo 3 (Operand.tmp 44) (Operand.const (Value.int IntKind.i64 2)) 3, type := 3, pos := _, after := #[{ on := 9, ground := Ground.data }], guard := none }) (v := ?_) rfl (by kernel_rfl) (by kernel_rfl) (by kernel_rfl) (fun _ _ _ h => h) (Or.inl ⟨by rfl, ?_⟩) (by assumption) ?_
        rotate_left
        · intro w hSw; (try dsimp only at hSw); go_simp; (try with_reducible rfl)
        try simp only [Act.put, List.setIfInBounds_toArray, List.set_cons_zero, List.set_cons_succ]
        refine wpAnyH_take (i := 11) (oi := { dst := some 46, op := Op.indexAddr 24 (Operand.tmp 42) (Operand.tmp 45), type := 0, pos := _, after := #[{ on := 7, ground := Ground.data }, { on := 10, ground := Ground.data }], guard := none }) (v := ?_) rfl (by kernel_rfl) (by kernel_rfl) (by kernel_rfl) (fun _ _ _ h => h) (Or.inl ⟨by rfl, ?_⟩) (by assumption) ?_
        rotate_left
        · intro w hSw; (try dsimp only at hSw); go_simp; (try with_reducible rfl)
        try simp only [Act.put, List.setIfInBounds_toArray, List.set_cons_zero, List.set_cons_succ]
        refine wpAnyH_ready (rs := [6, 12]) (by kernel_rfl) (by simp) ?_
        refine AllReadyH.cons (o := { dst := some 41, op := Op.load 3 (Operand.tmp 40), type := 3, pos := _, after := #[{ on := 5, ground := Ground.data }], guard := none }) rfl (fun K hK => ?_) (AllReadyH.cons (o := { dst := some 47, op := Op.load 3 (Operand.tmp 46), type := 3, pos := _, after := #[{ on := 11, ground := Ground.data }], guard := none }) rfl (fun K hK => ?_) AllReadyH.nil)
        · skip
          go_simp
          refine hK.out _ _ ?_ (fun hHeld => ?_)
          · trivial
          clear hK K
          try simp only [Act.put, List.setIfInBounds_toArray, List.set_cons_zero, List.set_cons_succ]
          refine wpAnyH_ready (rs := [12]) (by kernel_rfl) (by simp) ?_
          refine AllReadyH.cons (o := { dst := some 47, op := Op.load 3 (Operand.tmp 46), type := 3, pos := _, after := #[{ on := 11, ground := Ground.data }], guard := none }) rfl (fun K hK => ?_) AllReadyH.nil
          go_simp
          refine hK.out _ _ ?_ (fun hHeld => ?_)
          · trivial
          clear hK K
          try simp only [Act.put, List.setIfInBounds_toArray, List.set_cons_zero, List.set_cons_succ]
          refine wpAnyH_take (i := 13) (oi := { dst := some 48, op := Op.call { callee := Callee.builtin Builtin.max, args := #[Operand.tmp 41, Operand.tmp 47], argTypes := #[3, 3] }, type := 3, pos := _, after := #[{ on := 6, ground := Ground.data }, { on := 12, ground := Ground.data }], guard := none }) (v := ?_) rfl (by kernel_rfl) (by kernel_rfl) (by kernel_rfl) (fun _ _ _ h => h) (Or.inl ⟨by rfl, ?_⟩) (by assumption) ?_
          rotate_left
          · intro w hSw; (try dsimp only at hSw); go_simp; (try with_reducible rfl)
          try simp only [Act.put, List.setIfInBounds_toArray, List.set_cons_zero, List.set_cons_succ]
          refine wpAnyH_take (i := 14) (oi := { dst := some 49, op := Op.binOp BinOp.add 3 (Operand.const (Value.int IntKind.i64 1)) (Operand.tmp 48) 3, type := 3, pos := _, after := #[{ on := 13, ground := Ground.data }], guard := none }) (v := ?_) rfl (by kernel_rfl) (by kernel_rfl) (by kernel_rfl) (fun _ _ _ h => h) (Or.inl ⟨by rfl, ?_⟩) (by assumption) ?_
          rotate_left
          · intro w hSw; (try dsimp only at hSw); go_simp; (try with_reducible rfl)
          try simp only [Act.put, List.setIfInBounds_toArray, List.set_cons_zero, List.set_cons_succ]
          refine wpAnyH_ready (rs := [15]) (by kernel_rfl) (by simp) ?_
          refine AllReadyH.cons (o := { dst := some 50, op := Op.buildSlice 24 1 #[(0, Operand.tmp 49)], type := 24, pos := _, after := #[{ on := 14, ground := Ground.data }], guard := none }) rfl (fun K hK => ?_) AllReadyH.nil
          go_simp
          refine hK.out _ _ ?_ (fun hHeld => ?_)
          · trivial
          clear hK K
          try simp only [Act.put, List.setIfInBounds_toArray, List.set_cons_zero, List.set_cons_succ]
          refine wpAnyH_ready (rs := [16]) (by kernel_rfl) (by simp) ?_
          refine AllReadyH.cons (o := { dst := some 51, op := Op.call { callee := Callee.builtin Builtin.append, args := #[Operand.tmp 35, Operand.tmp 50], argTypes := #[24, 24] }, type := 24, pos := _, after := #[{ on := 0, ground := Ground.data }, { on := 15, ground := Ground.data }], guard := none }) rfl (fun K hK => ?_) AllReadyH.nil
          have O8 := Lib.hid ((O7.out.drew).alloc (.cells #[.int .i64 (1 + max va vb)] 3))
          obtain ⟨A9, k9, u9, hrun9, hown9, hgr9, hat9⟩ := app_run 24 3 24 Tryd.underlying24 _ 1 8 int_infoA rfl (by decide) (by decide) w.heap.size (some ⟨gl, 0, none⟩) (F + i) c (ints (G.levTo i)) O8.out ⟨w7.drew.heap.size, 0, none⟩ 1 [.int .i64 (1 + max va vb)] (rd_of_blk (cs := [.int .i64 (1 + max va vb)]) (Blk.made w7.drew 3 #[.int .i64 (1 + max va vb)]) 1 1 rfl) (fun u hu => by rw [List.mem_singleton] at hu; subst hu; rfl) (by omega) (by have := B7.out.size; simp; omega)
          refine step_app_run (by rfl) (.tmp 35) (.tmp 50) 24 24 (by rfl) (.slice (some ⟨gl, 0, none⟩) (F + i) c) (.slice (some ⟨w7.heap.size, 0, none⟩) 1 1) (by rfl) (by rfl) hrun9 ?_
          refine hK.out _ _ ?_ (fun hHeld => ?_)
          · trivial
          clear hK K
          try simp only [Act.put, List.setIfInBounds_toArray, List.set_cons_zero, List.set_cons_succ]
          refine wpAnyH_ready (rs := [17]) (by kernel_rfl) (by simp) ?_
          refine AllReadyH.cons (o := { dst := some 5, op := Op.assign (Operand.tmp 51), type := 24, pos := _, after := #[{ on := 16, ground := Ground.data }, { on := 16, ground := Ground.chain }, { on := 0, ground := Ground.phase }, { on := 1, ground := Ground.phase }, { on := 2, ground := Ground.phase }, { on := 3, ground := Ground.phase }, { on := 4, ground := Ground.phase }, { on := 5, ground := Ground.phase }, { on := 6, ground := Ground.phase }, { on := 7, ground := Ground.phase }, { on := 8, ground := Ground.phase }, { on := 9, ground := Ground.phase }, { on := 10, ground := Ground.phase }, { on := 11, ground := Ground.phase }, { on := 12, ground := Ground.phase }, { on := 13, ground := Ground.phase }, { on := 14, ground := Ground.phase }, { on := 15, ground := Ground.phase }, { on := 16, ground := Ground.phase }], guard := none }) rfl (fun K hK => ?_) AllReadyH.nil
          go_simp
          refine hK.out _ _ ?_ (fun hHeld => ?_)
          · trivial
          clear hK K
          try simp only [Act.put, List.setIfInBounds_toArray, List.set_cons_zero, List.set_cons_succ]
          refine wpAnyH_done (by kernel_rfl) ?_ _
          have HO9 := Lib.hid (show u9.ownsRow w.heap.size 3 1 (.slice A9 (F + i + 1) k9) (F + i + 1) (ints (G.levTo (i + 1))) from by rw [HNX.out, ints_append]; exact hown9)
          have HB9 := Lib.hid ((below_then (below_drewN B7.out 1) (below_new w7.drew (.cells #[.int .i64 (1 + max va vb)] 3))).grown hgr9 (below_then (below_drewN B7.out 1) (below_new w7.drew (.cells #[.int .i64 (1 + max va vb)] 3))).size (fun q hq => own_base O8.out (by rw [own_blk]; exact hq)))
          clear hrun9 hown9 hgr9 hat9
          go_wp2_with fail
          go_roundw
          case rel => exact ⟨i + 1, A9, k9, by omega, by go_num, rfl, HO9.out, HB9.out⟩
          case measure => simp [intOf]; omega
        · skip
          go_simp
          refine hK.out _ _ ?_ (fun hHeld => ?_)
          · trivial
          clear hK K
          try simp only [Act.put, List.setIfInBounds_toArray, List.set_cons_zero, List.set_cons_succ]
          refine wpAnyH_ready (rs := [6]) (by kernel_rfl) (by simp) ?_
          refine AllReadyH.cons (o := { dst := some 41, op := Op.load 3 (Operand.tmp 40), type := 3, pos := _, after := #[{ on := 5, ground := Ground.data }], guard := none }) rfl (fun K hK => ?_) AllReadyH.nil
          go_simp
          refine hK.out _ _ ?_ (fun hHeld => ?_)
          · trivial
          clear hK K
          try simp only [Act.put, List.setIfInBounds_toArray, List.set_cons_zero, List.set_cons_succ]
          refine wpAnyH_take (i := 13) (oi := { dst := some 48, op := Op.call { callee := Callee.builtin Builtin.max, args := #[Operand.tmp 41, Operand.tmp 47], argTypes := #[3, 3] }, type := 3, pos := _, after := #[{ on := 6, ground := Ground.data }, { on := 12, ground := Ground.data }], guard := none }) (v := ?_) rfl (by kernel_rfl) (by kernel_rfl) (by kernel_rfl) (fun _ _ _ h => h) (Or.inl ⟨by rfl, ?_⟩) (by assumption) ?_
          rotate_left
          · intro w hSw; (try dsimp only at hSw); go_simp; (try with_reducible rfl)
          try simp only [Act.put, List.setIfInBounds_toArray, List.set_cons_zero, List.set_cons_succ]
          refine wpAnyH_take (i := 14) (oi := { dst := some 49, op := Op.binOp BinOp.add 3 (Operand.const (Value.int IntKind.i64 1)) (Operand.tmp 48) 3, type := 3, pos := _, after := #[{ on := 13, ground := Ground.data }], guard := none }) (v := ?_) rfl (by kernel_rfl) (by kernel_rfl) (by kernel_rfl) (fun _ _ _ h => h) (Or.inl ⟨by rfl, ?_⟩) (by assumption) ?_
          rotate_left
          · intro w hSw; (try dsimp only at hSw); go_simp; (try with_reducible rfl)
          try simp only [Act.put, List.setIfInBounds_toArray, List.set_cons_zero, List.set_cons_succ]
          refine wpAnyH_ready (rs := [15]) (by kernel_rfl) (by simp) ?_
          refine AllReadyH.cons (o := { dst := some 50, op := Op.buildSlice 24 1 #[(0, Operand.tmp 49)], type := 24, pos := _, after := #[{ on := 14, ground := Ground.data }], guard := none }) rfl (fun K hK => ?_) AllReadyH.nil
          go_simp
          refine hK.out _ _ ?_ (fun hHeld => ?_)
          · trivial
          clear hK K
          try simp only [Act.put, List.setIfInBounds_toArray, List.set_cons_zero, List.set_cons_succ]
          refine wpAnyH_ready (rs := [16]) (by kernel_rfl) (by simp) ?_
          refine AllReadyH.cons (o := { dst := some 51, op := Op.call { callee := Callee.builtin Builtin.append, args := #[Operand.tmp 35, Operand.tmp 50], argTypes := #[24, 24] }, type := 24, pos := _, after := #[{ on := 0, ground := Ground.data }, { on := 15, ground := Ground.data }], guard := none }) rfl (fun K hK => ?_) AllReadyH.nil
          have O8 := Lib.hid ((O7.out.drew).alloc (.cells #[.int .i64 (1 + max va vb)] 3))
          obtain ⟨A9, k9, u9, hrun9, hown9, hgr9, hat9⟩ := app_run 24 3 24 Tryd.underlying24 _ 1 8 int_infoA rfl (by decide) (by decide) w.heap.size (some ⟨gl, 0, none⟩) (F + i) c (ints (G.levTo i)) O8.out ⟨w7.drew.heap.size, 0, none⟩ 1 [.int .i64 (1 + max va vb)] (rd_of_blk (cs := [.int .i64 (1 + max va vb)]) (Blk.made w7.drew 3 #[.int .i64 (1 + max va vb)]) 1 1 rfl) (fun u hu => by rw [List.mem_singleton] at hu; subst hu; rfl) (by omega) (by have := B7.out.size; simp; omega)
          refine step_app_run (by rfl) (.tmp 35) (.tmp 50) 24 24 (by rfl) (.slice (some ⟨gl, 0, none⟩) (F + i) c) (.slice (some ⟨w7.heap.size, 0, none⟩) 1 1) (by rfl) (by rfl) hrun9 ?_
          refine hK.out _ _ ?_ (fun hHeld => ?_)
          · trivial
          clear hK K
          try simp only [Act.put, List.setIfInBounds_toArray, List.set_cons_zero, List.set_cons_succ]
          refine wpAnyH_ready (rs := [17]) (by kernel_rfl) (by simp) ?_
          refine AllReadyH.cons (o := { dst := some 5, op := Op.assign (Operand.tmp 51), type := 24, pos := _, after := #[{ on := 16, ground := Ground.data }, { on := 16, ground := Ground.chain }, { on := 0, ground := Ground.phase }, { on := 1, ground := Ground.phase }, { on := 2, ground := Ground.phase }, { on := 3, ground := Ground.phase }, { on := 4, ground := Ground.phase }, { on := 5, ground := Ground.phase }, { on := 6, ground := Ground.phase }, { on := 7, ground := Ground.phase }, { on := 8, ground := Ground.phase }, { on := 9, ground := Ground.phase }, { on := 10, ground := Ground.phase }, { on := 11, ground := Ground.phase }, { on := 12, ground := Ground.phase }, { on := 13, ground := Ground.phase }, { on := 14, ground := Ground.phase }, { on := 15, ground := Ground.phase }, { on := 16, ground := Ground.phase }], guard := none }) rfl (fun K hK => ?_) AllReadyH.nil
          go_simp
          refine hK.out _ _ ?_ (fun hHeld => ?_)
          · trivial
          clear hK K
          try simp only [Act.put, List.setIfInBounds_toArray, List.set_cons_zero, List.set_cons_succ]
          refine wpAnyH_done (by kernel_rfl) ?_ _
          have HO9 := Lib.hid (show u9.ownsRow w.heap.size 3 1 (.slice A9 (F + i + 1) k9) (F + i + 1) (ints (G.levTo (i + 1))) from by rw [HNX.out, ints_append]; exact hown9)
          have HB9 := Lib.hid ((below_then (below_drewN B7.out 1) (below_new w7.drew (.cells #[.int .i64 (1 + max va vb)] 3))).grown hgr9 (below_then (below_drewN B7.out 1) (below_new w7.drew (.cells #[.int .i64 (1 + max va vb)] 3))).size (fun q hq => own_base O8.out (by rw [own_blk]; exact hq)))
          clear hrun9 hown9 hgr9 hat9
          go_wp2_with fail
          go_roundw
          case rel => exact ⟨i + 1, A9, k9, by omega, by go_num, rfl, HO9.out, HB9.out⟩
          case measure => simp [intOf]; omega
    · skip
      go_simp
      refine hK.out _ _ ?_ (fun hHeld => ?_)
      · trivial
      clear hK K
      try simp only [Act.put, List.setIfInBounds_toArray, List.set_cons_zero, List.set_cons_succ]
      refine wpAnyH_take (i := 10) (oi := { dst := some 45, op := Op.binOp BinOp.quo 3 (Operand.tmp 44) (Operand.const (Value.int IntKind.i64 2)) 3, type := 3, pos := _, after := #[{ on := 9, ground := Ground.data }], guard := none }) (v := ?_) rfl (by kernel_rfl) (by kernel_rfl) (by kernel_rfl) (fun _ _ _ h => h) (Or.inl ⟨by rfl, ?_⟩) (by assumption) ?_
      rotate_left
      · intro w hSw; (try dsimp only at hSw); go_simp; (try with_reducible rfl)
      try simp only [Act.put, List.setIfInBounds_toArray, List.set_cons_zero, List.set_cons_succ]
      refine wpAnyH_take (i := 11) (oi := { dst := some 46, op := Op.indexAddr 24 (Operand.tmp 42) (Operand.tmp 45), type := 0, pos := _, after := #[{ on := 7, ground := Ground.data }, { on := 10, ground := Ground.data }], guard := none }) (v := ?_) rfl (by kernel_rfl) (by kernel_rfl) (by kernel_rfl) (fun _ _ _ h => h) (Or.inl ⟨by rfl, ?_⟩) (by assumption) ?_
      rotate_left
      · intro w hSw; (try dsimp only at hSw); go_simp; (try with_reducible rfl)
      try simp only [Act.put, List.setIfInBounds_toArray, List.set_cons_zero, List.set_cons_succ]
      refine wpAnyH_ready (rs := [3, 12]) (by kernel_rfl) (by simp) ?_
      refine AllReadyH.cons (o := { dst := some 38, op := Op.load 3 (Operand.tmp 37), type := 3, pos := _, after := #[{ on := 2, ground := Ground.data }], guard := none }) rfl (fun K hK => ?_) (AllReadyH.cons (o := { dst := some 47, op := Op.load 3 (Operand.tmp 46), type := 3, pos := _, after := #[{ on := 11, ground := Ground.data }], guard := none }) rfl (fun K hK => ?_) AllReadyH.nil)
      · skip
        go_simp
        refine hK.out _ _ ?_ (fun hHeld => ?_)
        · trivial
        clear hK K
        try simp only [Act.put, List.setIfInBounds_toArray, List.set_cons_zero, List.set_cons_succ]
        refine wpAnyH_take (i := 4) (oi := { dst := some 39, op := Op.binOp BinOp.quo 3 (Operand.tmp 38) (Operand.const (Value.int IntKind.i64 2)) 3, type := 3, pos := _, after := #[{ on := 3, ground := Ground.data }], guard := none }) (v := ?_) rfl (by kernel_rfl) (by kernel_rfl) (by kernel_rfl) (fun _ _ _ h => h) (Or.inl ⟨by rfl, ?_⟩) (by assumption) ?_
        rotate_left
        · intro w hSw; (try dsimp only at hSw); go_simp; (try with_reducible rfl)
        try simp only [Act.put, List.setIfInBounds_toArray, List.set_cons_zero, List.set_cons_succ]
        refine wpAnyH_take (i := 5) (oi := { dst := some 40, op := Op.indexAddr 24 (Operand.tmp 36) (Operand.tmp 39), type := 0, pos := _, after := #[{ on := 1, ground := Ground.data }, { on := 4, ground := Ground.data }], guard := none }) (v := ?_) rfl (by kernel_rfl) (by kernel_rfl) (by kernel_rfl) (fun _ _ _ h => h) (Or.inl ⟨by rfl, ?_⟩) (by assumption) ?_
        rotate_left
        · intro w hSw; (try dsimp only at hSw); go_simp; (try with_reducible rfl)
        try simp only [Act.put, List.setIfInBounds_toArray, List.set_cons_zero, List.set_cons_succ]
        refine wpAnyH_ready (rs := [6, 12]) (by kernel_rfl) (by simp) ?_
        refine AllReadyH.cons (o := { dst := some 41, op := Op.load 3 (Operand.tmp 40), type := 3, pos := _, after := #[{ on := 5, ground := Ground.data }], guard := none }) rfl (fun K hK => ?_) (AllReadyH.cons (o := { dst := some 47, op := Op.load 3 (Operand.tmp 46), type := 3, pos := _, after := #[{ on := 11, ground := Ground.data }], guard := none }) rfl (fun K hK => ?_) AllReadyH.nil)
        · skip
          go_simp
          refine hK.out _ _ ?_ (fun hHeld => ?_)
          · trivial
          clear hK K
          try simp only [Act.put, List.setIfInBounds_toArray, List.set_cons_zero, List.set_cons_succ]
          refine wpAnyH_ready (rs := [12]) (by kernel_rfl) (by simp) ?_
          refine AllReadyH.cons (o := { dst := some 47, op := Op.load 3 (Operand.tmp 46), type := 3, pos := _, after := #[{ on := 11, ground := Ground.data }], guard := none }) rfl (fun K hK => ?_) AllReadyH.nil
          go_simp
          refine hK.out _ _ ?_ (fun hHeld => ?_)
          · trivial
          clear hK K
          try simp only [Act.put, List.setIfInBounds_toArray, List.set_cons_zero, List.set_cons_succ]
          refine wpAnyH_take (i := 13) (oi := { dst := some 48, op := Op.call { callee := Callee.builtin Builtin.max, args := #[Operand.tmp 41, Operand.tmp 47], argTypes := #[3, 3] }, type := 3, pos := _, after := #[{ on := 6, ground := Ground.data }, { on := 12, ground := Ground.data }], guard := none }) (v := ?_) rfl (by kernel_rfl) (by kernel_rfl) (by kernel_rfl) (fun _ _ _ h => h) (Or.inl ⟨by rfl, ?_⟩) (by assumption) ?_
          rotate_left
          · intro w hSw; (try dsimp only at hSw); go_simp; (try with_reducible rfl)
          try simp only [Act.put, List.setIfInBounds_toArray, List.set_cons_zero, List.set_cons_succ]
          refine wpAnyH_take (i := 14) (oi := { dst := some 49, op := Op.binOp BinOp.add 3 (Operand.const (Value.int IntKind.i64 1)) (Operand.tmp 48) 3, type := 3, pos := _, after := #[{ on := 13, ground := Ground.data }], guard := none }) (v := ?_) rfl (by kernel_rfl) (by kernel_rfl) (by kernel_rfl) (fun _ _ _ h => h) (Or.inl ⟨by rfl, ?_⟩) (by assumption) ?_
          rotate_left
          · intro w hSw; (try dsimp only at hSw); go_simp; (try with_reducible rfl)
          try simp only [Act.put, List.setIfInBounds_toArray, List.set_cons_zero, List.set_cons_succ]
          refine wpAnyH_ready (rs := [15]) (by kernel_rfl) (by simp) ?_
          refine AllReadyH.cons (o := { dst := some 50, op := Op.buildSlice 24 1 #[(0, Operand.tmp 49)], type := 24, pos := _, after := #[{ on := 14, ground := Ground.data }], guard := none }) rfl (fun K hK => ?_) AllReadyH.nil
          go_simp
          refine hK.out _ _ ?_ (fun hHeld => ?_)
          · trivial
          clear hK K
          try simp only [Act.put, List.setIfInBounds_toArray, List.set_cons_zero, List.set_cons_succ]
          refine wpAnyH_ready (rs := [16]) (by kernel_rfl) (by simp) ?_
          refine AllReadyH.cons (o := { dst := some 51, op := Op.call { callee := Callee.builtin Builtin.append, args := #[Operand.tmp 35, Operand.tmp 50], argTypes := #[24, 24] }, type := 24, pos := _, after := #[{ on := 0, ground := Ground.data }, { on := 15, ground := Ground.data }], guard := none }) rfl (fun K hK => ?_) AllReadyH.nil
          have O8 := Lib.hid ((O7.out.drew).alloc (.cells #[.int .i64 (1 + max va vb)] 3))
          obtain ⟨A9, k9, u9, hrun9, hown9, hgr9, hat9⟩ := app_run 24 3 24 Tryd.underlying24 _ 1 8 int_infoA rfl (by decide) (by decide) w.heap.size (some ⟨gl, 0, none⟩) (F + i) c (ints (G.levTo i)) O8.out ⟨w7.drew.heap.size, 0, none⟩ 1 [.int .i64 (1 + max va vb)] (rd_of_blk (cs := [.int .i64 (1 + max va vb)]) (Blk.made w7.drew 3 #[.int .i64 (1 + max va vb)]) 1 1 rfl) (fun u hu => by rw [List.mem_singleton] at hu; subst hu; rfl) (by omega) (by have := B7.out.size; simp; omega)
          refine step_app_run (by rfl) (.tmp 35) (.tmp 50) 24 24 (by rfl) (.slice (some ⟨gl, 0, none⟩) (F + i) c) (.slice (some ⟨w7.heap.size, 0, none⟩) 1 1) (by rfl) (by rfl) hrun9 ?_
          refine hK.out _ _ ?_ (fun hHeld => ?_)
          · trivial
          clear hK K
          try simp only [Act.put, List.setIfInBounds_toArray, List.set_cons_zero, List.set_cons_succ]
          refine wpAnyH_ready (rs := [17]) (by kernel_rfl) (by simp) ?_
          refine AllReadyH.cons (o := { dst := some 5, op := Op.assign (Operand.tmp 51), type := 24, pos := _, after := #[{ on := 16, ground := Ground.data }, { on := 16, ground := Ground.chain }, { on := 0, ground := Ground.phase }, { on := 1, ground := Ground.phase }, { on := 2, ground := Ground.phase }, { on := 3, ground := Ground.phase }, { on := 4, ground := Ground.phase }, { on := 5, ground := Ground.phase }, { on := 6, ground := Ground.phase }, { on := 7, ground := Ground.phase }, { on := 8, ground := Ground.phase }, { on := 9, ground := Ground.phase }, { on := 10, ground := Ground.phase }, { on := 11, ground := Ground.phase }, { on := 12, ground := Ground.phase }, { on := 13, ground := Ground.phase }, { on := 14, ground := Ground.phase }, { on := 15, ground := Ground.phase }, { on := 16, ground := Ground.phase }], guard := none }) rfl (fun K hK => ?_) AllReadyH.nil
          go_simp
          refine hK.out _ _ ?_ (fun hHeld => ?_)
          · trivial
          clear hK K
          try simp only [Act.put, List.setIfInBounds_toArray, List.set_cons_zero, List.set_cons_succ]
          refine wpAnyH_done (by kernel_rfl) ?_ _
          have HO9 := Lib.hid (show u9.ownsRow w.heap.size 3 1 (.slice A9 (F + i + 1) k9) (F + i + 1) (ints (G.levTo (i + 1))) from by rw [HNX.out, ints_append]; exact hown9)
          have HB9 := Lib.hid ((below_then (below_drewN B7.out 1) (below_new w7.drew (.cells #[.int .i64 (1 + max va vb)] 3))).grown hgr9 (below_then (below_drewN B7.out 1) (below_new w7.drew (.cells #[.int .i64 (1 + max va vb)] 3))).size (fun q hq => own_base O8.out (by rw [own_blk]; exact hq)))
          clear hrun9 hown9 hgr9 hat9
          go_wp2_with fail
          go_roundw
          case rel => exact ⟨i + 1, A9, k9, by omega, by go_num, rfl, HO9.out, HB9.out⟩
          case measure => simp [intOf]; omega
        · skip
          go_simp
          refine hK.out _ _ ?_ (fun hHeld => ?_)
          · trivial
          clear hK K
          try simp only [Act.put, List.setIfInBounds_toArray, List.set_cons_zero, List.set_cons_succ]
          refine wpAnyH_ready (rs := [6]) (by kernel_rfl) (by simp) ?_
          refine AllReadyH.cons (o := { dst := some 41, op := Op.load 3 (Operand.tmp 40), type := 3, pos := _, after := #[{ on := 5, ground := Ground.data }], guard := none }) rfl (fun K hK => ?_) AllReadyH.nil
          go_simp
          refine hK.out _ _ ?_ (fun hHeld => ?_)
          · trivial
          clear hK K
          try simp only [Act.put, List.setIfInBounds_toArray, List.set_cons_zero, List.set_cons_succ]
          refine wpAnyH_take (i := 13) (oi := { dst := some 48, op := Op.call { callee := Callee.builtin Builtin.max, args := #[Operand.tmp 41, Operand.tmp 47], argTypes := #[3, 3] }, type := 3, pos := _, after := #[{ on := 6, ground := Ground.data }, { on := 12, ground := Ground.data }], guard := none }) (v := ?_) rfl (by kernel_rfl) (by kernel_rfl) (by kernel_rfl) (fun _ _ _ h => h) (Or.inl ⟨by rfl, ?_⟩) (by assumption) ?_
          rotate_left
          · intro w hSw; (try dsimp only at hSw); go_simp; (try with_reducible rfl)
          try simp only [Act.put, List.setIfInBounds_toArray, List.set_cons_zero, List.set_cons_succ]
          refine wpAnyH_take (i := 14) (oi := { dst := some 49, op := Op.binOp BinOp.add 3 (Operand.const (Value.int IntKind.i64 1)) (Operand.tmp 48) 3, type := 3, pos := _, after := #[{ on := 13, ground := Ground.data }], guard := none }) (v := ?_) rfl (by kernel_rfl) (by kernel_rfl) (by kernel_rfl) (fun _ _ _ h => h) (Or.inl ⟨by rfl, ?_⟩) (by assumption) ?_
          rotate_left
          · intro w hSw; (try dsimp only at hSw); go_simp; (try with_reducible rfl)
          try simp only [Act.put, List.setIfInBounds_toArray, List.set_cons_zero, List.set_cons_succ]
          refine wpAnyH_ready (rs := [15]) (by kernel_rfl) (by simp) ?_
          refine AllReadyH.cons (o := { dst := some 50, op := Op.buildSlice 24 1 #[(0, Operand.tmp 49)], type := 24, pos := _, after := #[{ on := 14, ground := Ground.data }], guard := none }) rfl (fun K hK => ?_) AllReadyH.nil
          go_simp
          refine hK.out _ _ ?_ (fun hHeld => ?_)
          · trivial
          clear hK K
          try simp only [Act.put, List.setIfInBounds_toArray, List.set_cons_zero, List.set_cons_succ]
          refine wpAnyH_ready (rs := [16]) (by kernel_rfl) (by simp) ?_
          refine AllReadyH.cons (o := { dst := some 51, op := Op.call { callee := Callee.builtin Builtin.append, args := #[Operand.tmp 35, Operand.tmp 50], argTypes := #[24, 24] }, type := 24, pos := _, after := #[{ on := 0, ground := Ground.data }, { on := 15, ground := Ground.data }], guard := none }) rfl (fun K hK => ?_) AllReadyH.nil
          have O8 := Lib.hid ((O7.out.drew).alloc (.cells #[.int .i64 (1 + max va vb)] 3))
          obtain ⟨A9, k9, u9, hrun9, hown9, hgr9, hat9⟩ := app_run 24 3 24 Tryd.underlying24 _ 1 8 int_infoA rfl (by decide) (by decide) w.heap.size (some ⟨gl, 0, none⟩) (F + i) c (ints (G.levTo i)) O8.out ⟨w7.drew.heap.size, 0, none⟩ 1 [.int .i64 (1 + max va vb)] (rd_of_blk (cs := [.int .i64 (1 + max va vb)]) (Blk.made w7.drew 3 #[.int .i64 (1 + max va vb)]) 1 1 rfl) (fun u hu => by rw [List.mem_singleton] at hu; subst hu; rfl) (by omega) (by have := B7.out.size; simp; omega)
          refine step_app_run (by rfl) (.tmp 35) (.tmp 50) 24 24 (by rfl) (.slice (some ⟨gl, 0, none⟩) (F + i) c) (.slice (some ⟨w7.heap.size, 0, none⟩) 1 1) (by rfl) (by rfl) hrun9 ?_
          refine hK.out _ _ ?_ (fun hHeld => ?_)
          · trivial
          clear hK K
          try simp only [Act.put, List.setIfInBounds_toArray, List.set_cons_zero, List.set_cons_succ]
          refine wpAnyH_ready (rs := [17]) (by kernel_rfl) (by simp) ?_
          refine AllReadyH.cons (o := { dst := some 5, op := Op.assign (Operand.tmp 51), type := 24, pos := _, after := #[{ on := 16, ground := Ground.data }, { on := 16, ground := Ground.chain }, { on := 0, ground := Ground.phase }, { on := 1, ground := Ground.phase }, { on := 2, ground := Ground.phase }, { on := 3, ground := Ground.phase }, { on := 4, ground := Ground.phase }, { on := 5, ground := Ground.phase }, { on := 6, ground := Ground.phase }, { on := 7, ground := Ground.phase }, { on := 8, ground := Ground.phase }, { on := 9, ground := Ground.phase }, { on := 10, ground := Ground.phase }, { on := 11, ground := Ground.phase }, { on := 12, ground := Ground.phase }, { on := 13, ground := Ground.phase }, { on := 14, ground := Ground.phase }, { on := 15, ground := Ground.phase }, { on := 16, ground := Ground.phase }], guard := none }) rfl (fun K hK => ?_) AllReadyH.nil
          go_simp
          refine hK.out _ _ ?_ (fun hHeld => ?_)
          · trivial
          clear hK K
          try simp only [Act.put, List.setIfInBounds_toArray, List.set_cons_zero, List.set_cons_succ]
          refine wpAnyH_done (by kernel_rfl) ?_ _
          have HO9 := Lib.hid (show u9.ownsRow w.heap.size 3 1 (.slice A9 (F + i + 1) k9) (F + i + 1) (ints (G.levTo (i + 1))) from by rw [HNX.out, ints_append]; exact hown9)
          have HB9 := Lib.hid ((below_then (below_drewN B7.out 1) (below_new w7.drew (.cells #[.int .i64 (1 + max va vb)] 3))).grown hgr9 (below_then (below_drewN B7.out 1) (below_new w7.drew (.cells #[.int .i64 (1 + max va vb)] 3))).size (fun q hq => own_base O8.out (by rw [own_blk]; exact hq)))
          clear hrun9 hown9 hgr9 hat9
          go_wp2_with fail
          go_roundw
          case rel => exact ⟨i + 1, A9, k9, by omega, by go_num, rfl, HO9.out, HB9.out⟩
          case measure => simp [intOf]; omega
      · skip
        go_simp
        refine hK.out _ _ ?_ (fun hHeld => ?_)
        · trivial
        clear hK K
        try simp only [Act.put, List.setIfInBounds_toArray, List.set_cons_zero, List.set_cons_succ]
        refine wpAnyH_ready (rs := [3]) (by kernel_rfl) (by simp) ?_
        refine AllReadyH.cons (o := { dst := some 38, op := Op.load 3 (Operand.tmp 37), type := 3, pos := _, after := #[{ on := 2, ground := Ground.data }], guard := none }) rfl (fun K hK => ?_) AllReadyH.nil
        go_simp
        refine hK.out _ _ ?_ (fun hHeld => ?_)
        · trivial
        clear hK K
        try simp only [Act.put, List.setIfInBounds_toArray, List.set_cons_zero, List.set_cons_succ]
        refine wpAnyH_take (i := 4) (oi := { dst := some 39, op := Op.binOp BinOp.quo 3 (Operand.tmp 38) (Operand.const (Value.int IntKind.i64 2)) 3, type := 3, pos := _, after := #[{ on := 3, ground := Ground.data }], guard := none }) (v := ?_) rfl (by kernel_rfl) (by kernel_rfl) (by kernel_rfl) (fun _ _ _ h => h) (Or.inl ⟨by rfl, ?_⟩) (by assumption) ?_
        rotate_left
        · intro w hSw; (try dsimp only at hSw); go_simp; (try with_reducible rfl)
        try simp only [Act.put, List.setIfInBounds_toArray, List.set_cons_zero, List.set_cons_succ]
        refine wpAnyH_take (i := 5) (oi := { dst := some 40, op := Op.indexAddr 24 (Operand.tmp 36) (Operand.tmp 39), type := 0, pos := _, after := #[{ on := 1, ground := Ground.data }, { on := 4, ground := Ground.data }], guard := none }) (v := ?_) rfl (by kernel_rfl) (by kernel_rfl) (by kernel_rfl) (fun _ _ _ h => h) (Or.inl ⟨by rfl, ?_⟩) (by assumption) ?_
        rotate_left
        · intro w hSw; (try dsimp only at hSw); go_simp; (try with_reducible rfl)
        try simp only [Act.put, List.setIfInBounds_toArray, List.set_cons_zero, List.set_cons_succ]
        refine wpAnyH_ready (rs := [6]) (by kernel_rfl) (by simp) ?_
        refine AllReadyH.cons (o := { dst := some 41, op := Op.load 3 (Operand.tmp 40), type := 3, pos := _, after := #[{ on := 5, ground := Ground.data }], guard := none }) rfl (fun K hK => ?_) AllReadyH.nil
        go_simp
        refine hK.out _ _ ?_ (fun hHeld => ?_)
        · trivial
        clear hK K
        try simp only [Act.put, List.setIfInBounds_toArray, List.set_cons_zero, List.set_cons_succ]
        refine wpAnyH_take (i := 13) (oi := { dst := some 48, op := Op.call { callee := Callee.builtin Builtin.max, args := #[Operand.tmp 41, Operand.tmp 47], argTypes := #[3, 3] }, type := 3, pos := _, after := #[{ on := 6, ground := Ground.data }, { on := 12, ground := Ground.data }], guard := none }) (v := ?_) rfl (by kernel_rfl) (by kernel_rfl) (by kernel_rfl) (fun _ _ _ h => h) (Or.inl ⟨by rfl, ?_⟩) (by assumption) ?_
        rotate_left
        · intro w hSw; (try dsimp only at hSw); go_simp; (try with_reducible rfl)
        try simp only [Act.put, List.setIfInBounds_toArray, List.set_cons_zero, List.set_cons_succ]
        refine wpAnyH_take (i := 14) (oi := { dst := some 49, op := Op.binOp BinOp.add 3 (Operand.const (Value.int IntKind.i64 1)) (Operand.tmp 48) 3, type := 3, pos := _, after := #[{ on := 13, ground := Ground.data }], guard := none }) (v := ?_) rfl (by kernel_rfl) (by kernel_rfl) (by kernel_rfl) (fun _ _ _ h => h) (Or.inl ⟨by rfl, ?_⟩) (by assumption) ?_
        rotate_left
        · intro w hSw; (try dsimp only at hSw); go_simp; (try with_reducible rfl)
        try simp only [Act.put, List.setIfInBounds_toArray, List.set_cons_zero, List.set_cons_succ]
        refine wpAnyH_ready (rs := [15]) (by kernel_rfl) (by simp) ?_
        refine AllReadyH.cons (o := { dst := some 50, op := Op.buildSlice 24 1 #[(0, Operand.tmp 49)], type := 24, pos := _, after := #[{ on := 14, ground := Ground.data }], guard := none }) rfl (fun K hK => ?_) AllReadyH.nil
        go_simp
        refine hK.out _ _ ?_ (fun hHeld => ?_)
        · trivial
        clear hK K
        try simp only [Act.put, List.setIfInBounds_toArray, List.set_cons_zero, List.set_cons_succ]
        refine wpAnyH_ready (rs := [16]) (by kernel_rfl) (by simp) ?_
        refine AllReadyH.cons (o := { dst := some 51, op := Op.call { callee := Callee.builtin Builtin.append, args := #[Operand.tmp 35, Operand.tmp 50], argTypes := #[24, 24] }, type := 24, pos := _, after := #[{ on := 0, ground := Ground.data }, { on := 15, ground := Ground.data }], guard := none }) rfl (fun K hK => ?_) AllReadyH.nil
        have O8 := Lib.hid ((O7.out.drew).alloc (.cells #[.int .i64 (1 + max va vb)] 3))
        obtain ⟨A9, k9, u9, hrun9, hown9, hgr9, hat9⟩ := app_run 24 3 24 Tryd.underlying24 _ 1 8 int_infoA rfl (by decide) (by decide) w.heap.size (some ⟨gl, 0, none⟩) (F + i) c (ints (G.levTo i)) O8.out ⟨w7.drew.heap.size, 0, none⟩ 1 [.int .i64 (1 + max va vb)] (rd_of_blk (cs := [.int .i64 (1 + max va vb)]) (Blk.made w7.drew 3 #[.int .i64 (1 + max va vb)]) 1 1 rfl) (fun u hu => by rw [List.mem_singleton] at hu; subst hu; rfl) (by omega) (by have := B7.out.size; simp; omega)
        refine step_app_run (by rfl) (.tmp 35) (.tmp 50) 24 24 (by rfl) (.slice (some ⟨gl, 0, none⟩) (F + i) c) (.slice (some ⟨w7.heap.size, 0, none⟩) 1 1) (by rfl) (by rfl) hrun9 ?_
        refine hK.out _ _ ?_ (fun hHeld => ?_)
        · trivial
        clear hK K
        try simp only [Act.put, List.setIfInBounds_toArray, List.set_cons_zero, List.set_cons_succ]
        refine wpAnyH_ready (rs := [17]) (by kernel_rfl) (by simp) ?_
        refine AllReadyH.cons (o := { dst := some 5, op := Op.assign (Operand.tmp 51), type := 24, pos := _, after := #[{ on := 16, ground := Ground.data }, { on := 16, ground := Ground.chain }, { on := 0, ground := Ground.phase }, { on := 1, ground := Ground.phase }, { on := 2, ground := Ground.phase }, { on := 3, ground := Ground.phase }, { on := 4, ground := Ground.phase }, { on := 5, ground := Ground.phase }, { on := 6, ground := Ground.phase }, { on := 7, ground := Ground.phase }, { on := 8, ground := Ground.phase }, { on := 9, ground := Ground.phase }, { on := 10, ground := Ground.phase }, { on := 11, ground := Ground.phase }, { on := 12, ground := Ground.phase }, { on := 13, ground := Ground.phase }, { on := 14, ground := Ground.phase }, { on := 15, ground := Ground.phase }, { on := 16, ground := Ground.phase }], guard := none }) rfl (fun K hK => ?_) AllReadyH.nil
        go_simp
        refine hK.out _ _ ?_ (fun hHeld => ?_)
        · trivial
        clear hK K
        try simp only [Act.put, List.setIfInBounds_toArray, List.set_cons_zero, List.set_cons_succ]
        refine wpAnyH_done (by kernel_rfl) ?_ _
        have HO9 := Lib.hid (show u9.ownsRow w.heap.size 3 1 (.slice A9 (F + i + 1) k9) (F + i + 1) (ints (G.levTo (i + 1))) from by rw [HNX.out, ints_append]; exact hown9)
        have HB9 := Lib.hid ((below_then (below_drewN B7.out 1) (below_new w7.drew (.cells #[.int .i64 (1 + max va vb)] 3))).grown hgr9 (below_then (below_drewN B7.out 1) (below_new w7.drew (.cells #[.int .i64 (1 + max va vb)] 3))).size (fun q hq => own_base O8.out (by rw [own_blk]; exact hq)))
        clear hrun9 hown9 hgr9 hat9
        go_wp2_with fail
        go_roundw
        case rel => exact ⟨i + 1, A9, k9, by omega, by go_num, rfl, HO9.out, HB9.out⟩
        case measure => simp [intOf]; omega
end Go.Proofs.YtkhlllbceceikaaDoor
