/- The law CutsOwn: the table of a gate by its two: of each gate of two unlike nodes that are not 0 it is that of the and, each turned round or not; by itself it is itself. · The card ties the row of columns. -/
import Derived.Test.YtkhlllbceceikaaDoorOpenG
import Derived.Test.YtkhlllbceceikaaDoorFew24
import Derived.Test.YtkhlllbceceikaaDoorPlain24
import Derived.Test.YtkhlllbceceikaaDoorLive24
namespace Go.Proofs.YtkhlllbceceikaaDoor
open Go.ChangeShapes Go.WideShapes Go.ChangeAt Go.RowKit Go.Joins
set_option linter.unusedVariables false
set_option linter.unusedSimpArgs false
theorem tbl_some {o : Option Nat} {w w' : World} {r : Ending} (v : Nat) (z : Int) (hz : (v : Int) = z) (ho : o = some v) (h : TblOut o w r w') : r = .returned (.tuple #[.int .u64 z, .int .i64 0]) ∧ Below w.heap.size w w' := by
  subst ho; subst hz; exact h
theorem AG.good_self {G : AG} (hok : G.ok) {n : Nat} (h0 : 0 < n) (hn : n < G.cn) : G.good [(n : Int)] (n : Int) = some 2 := by
  rw [AG.good_of hok hn (fun z hz => by rw [List.mem_singleton] at hz; subst hz; omega) (List.pairwise_singleton _ _) (by simp) (fun z hz => by rw [List.mem_singleton] at hz; subst hz; omega)]
  exact G.table_self h0
theorem AG.good_two {G : AG} (hok : G.ok) {i a b x y : Nat} (hi : i < G.an.length) (hg : G.ands[i]? = some (a, b)) (ha : a / 2 < G.fst + i) (hb : b / 2 < G.fst + i) (hx : x = min a b) (hy : y = max a b) (hne : x / 2 ≠ y / 2) (h2 : 2 ≤ x) :
    G.good [((x / 2 : Nat) : Int), ((y / 2 : Nat) : Int)] ((G.fst + i : Nat) : Int) = some (2 ^ (3 - (if x % 2 = 1 then 1 else 0) - (if y % 2 = 1 then 2 else 0))) := by
  have hcn : G.cn = G.fst + G.an.length := rfl
  have h1 : NodesIn (G.fst + i + 1) [((x / 2 : Nat) : Int), ((y / 2 : Nat) : Int)] := fun z hz => by
    simp only [List.mem_cons, List.not_mem_nil, or_false] at hz
    rcases hz with rfl | rfl <;> omega
  have h3 : Cut.Rises [((x / 2 : Nat) : Int), ((y / 2 : Nat) : Int)] := List.pairwise_pair.2 (by omega)
  have h4 : ∀ z ∈ [((x / 2 : Nat) : Int), ((y / 2 : Nat) : Int)], 1 ≤ z := fun z hz => by
    simp only [List.mem_cons, List.not_mem_nil, or_false] at hz
    rcases hz with rfl | rfl <;> omega
  rw [AG.good_of hok (by omega) h1 h3 (by simp) h4]
  exact AG.table_own hg ha hb G.fst_pos hx hy hne h2

set_option maxRecDepth 100000 in
set_option maxHeartbeats 4000000 in
theorem cutsOwn_walk (G : AG) (w : World) (hin : G.In w) (hwf : G.wf) (hcols : COLS w) :
    Calls Tryd.prog 6 #[.agg #[.int .i64 G.I, .slice G.AF G.fl.length G.cF, .slice G.AA G.an.length G.cA, .slice G.AO G.ou.length G.cO]] w fun e w' => e = .returned (.bool true) ∧ Below w.heap.size w w' := by
  have X0 := Lib.hid (Blk.made w 26 #[.int .i64 G.I, .slice G.AF G.fl.length G.cF, .slice G.AA G.an.length G.cA, .slice G.AO G.ou.length G.cO])
  have Q0 := Lib.hid (below_new w (.cells #[.int .i64 G.I, .slice G.AF G.fl.length G.cF, .slice G.AA G.an.length G.cA, .slice G.AO G.ou.length G.cO] 26))
  have HIN := Lib.hid hin
  have HWF := Lib.hid hwf
  have HC := Lib.hid hcols
  clear hin hwf hcols
  have hf0 := few24_any G
  have HF := Lib.hid hf0
  clear hf0
  go_enter Tryd.func6, Tryd.ntmps6
  go_wp2_with fail
  refine (live24_any _ (HC.out.below Q0.out)).mono ?_
  rintro e1 w1 ⟨rfl, hb1⟩
  have Q1 := Lib.hid (below_then Q0.out hb1)
  have X1 := Lib.hid (X0.out.keep hb1)
  clear hb1
  have k0 := X1.out.cell 0
  have k1 := X1.out.cell 1
  have k2 := X1.out.cell 2
  have k3 := X1.out.cell 3
  go_wp2_with fail
  refine (HF.out _).mono ?_
  rintro e1 w2 ⟨rfl, hb2⟩
  have Q2 := Lib.hid (below_then Q1.out hb2)
  have X2 := Lib.hid (X1.out.keep hb2)
  clear hb2 k0 k1 k2 k3 X1
  by_cases hs : few24 G
  case neg =>
    rw [show decide (few24 G) = false from decide_eq_false hs]
    go_wp2_with fail
    go_ret
    exact ⟨rfl, Q2.out⟩
  rw [show decide (few24 G) = true from decide_eq_true hs]
  have HS := Lib.hid hs
  clear hs
  have k0 := X2.out.cell 0
  have k1 := X2.out.cell 1
  have k2 := X2.out.cell 2
  have k3 := X2.out.cell 3
  have HE := Lib.hid (acheck_any G w2 (HIN.out.later Q2.out) (few24_fit HS.out) HWF.out)
  by_cases hok : G.ok
  case neg =>
    rw [show G.E = 1 from if_neg hok] at HE
    go_wp2_with fail
    refine HE.out.mono ?_
    rintro e1 w3 ⟨rfl, hb3⟩
    have Q3 := Lib.hid (below_then Q2.out hb3)
    clear hb3
    go_wp2_with fail
    go_ret
    exact ⟨rfl, Q3.out⟩
  have HOK := Lib.hid hok
  rw [show G.E = 0 from if_pos hok] at HE
  have hfst : 1 + G.I + (G.fl.length : Int) = (G.fst : Int) := hok.firstN
  have hI := hok.1
  have hI2 := HS.out.1
  have hI3 := HS.out.2.1
  have hFle : G.fst ≤ 61 := by unfold AG.fst; omega
  have hA60 := HS.out.2.2.1
  have hF0 := G.fst_pos
  clear hok
  go_wp2_with fail
  refine HE.out.mono ?_
  rintro e1 w3 ⟨rfl, hb3⟩
  have Q3 := Lib.hid (below_then Q2.out hb3)
  have X3 := Lib.hid (X2.out.keep hb3)
  clear hb3 k0 k1 k2 k3 HE X2
  obtain ⟨F, hF⟩ : ∃ F, G.fst = F := ⟨_, rfl⟩
  have HFF := Lib.hid hF
  rw [hF] at hfst hFle hF0
  obtain ⟨n, hn⟩ : ∃ n, G.an.length = n := ⟨_, rfl⟩
  have HN := Lib.hid hn
  have k0 := X3.out.cell 0
  have k1 := X3.out.cell 1
  have k2 : w3.cell? ⟨w.heap.size, 2, none⟩ = some (.slice G.AA G.an.length G.cA) := X3.out.cell 2
  have k3 := X3.out.cell 3
  rw [hn] at k2 hA60
  clear hF hn
  go_wp2_with fail
  go_loopw [5] (fun v5 wx => ∃ i : Nat, i ≤ n ∧ v5 = .int .i64 (i : Int) ∧ Below w3.heap.size w3 wx) (fun v5 _ => n - (intOf v5).toNat)
  case atStart => exact ⟨0, by omega, rfl, Below.refl _ _⟩
  case round =>
    obtain ⟨i, hi, rfl, hB⟩ := hrel
    have B1 := Lib.hid hB
    have X4 := Lib.hid (X3.out.keep hB)
    clear hB k0 k1 k2 k3
    have k0 := X4.out.cell 0
    have k1 := X4.out.cell 1
    have k2 : wr.cell? ⟨w.heap.size, 2, none⟩ = some (.slice G.AA G.an.length G.cA) := X4.out.cell 2
    have k3 := X4.out.cell 3
    rw [HN.out] at k2
    by_cases hin : i < n
    case neg =>
      have hlt : ¬ (i : Int) < (n : Int) := by omega
      go_wp2_with fail
      go_ret
      exact ⟨rfl, below_then Q3.out B1.out⟩
    have hin' : (i : Int) < (n : Int) := by omega
    have hia : i < G.an.length := by rw [HN.out]; exact hin
    obtain ⟨a, b, hg, hgs, ha, hb, hal, hbl⟩ := HOK.out.gate hia
    obtain ⟨pa, hPA, hpb, e0, e1⟩ := HIN.out.an.two (pc_get G.an i hia).1 (pc_get G.an i hia).2
    rw [hg] at e0 e1
    have HPA := Lib.hid hPA
    clear hPA
    rw [HPA.out] at k2
    obtain ⟨ga, hga⟩ : ∃ p, pa.add (i * 2) = p := ⟨_, rfl⟩
    have hgab : ga.block < w.heap.size := by rw [← hga, add_block]; exact hpb
    rw [hga] at e0 e1
    have QW := below_then Q3.out B1.out
    have e2 : wr.cell? ga = some (.int .i64 (a : Int)) := (QW.cell hgab).trans e0
    have e3 : wr.cell? ⟨ga.block, ga.off + 1, none⟩ = some (.int .i64 (b : Int)) := (QW.cell (p := ⟨ga.block, ga.off + 1, none⟩) hgab).trans e1
    obtain ⟨x, hx⟩ : ∃ x, x = min a b := ⟨_, rfl⟩
    obtain ⟨y, hy⟩ : ∃ y, y = max a b := ⟨_, rfl⟩
    have hxi : min (a : Int) (b : Int) = (x : Int) := by omega
    have hyi : max (a : Int) (b : Int) = (y : Int) := by omega
    have hself := AG.good_self HOK.out (n := G.fst + i) (by have := G.fst_pos; omega) (by have : G.cn = G.fst + G.an.length := rfl; omega)
    have HT2 := Lib.hid (fun h1 h2 => AG.good_two HOK.out hia hgs ha hb hx hy h1 h2)
    rw [HFF.out] at hself HT2 hal hbl
    have hxb : x ≤ 2000000 := by omega
    have hyb : y ≤ 2000000 := by omega
    have E2 := Lib.hid e0
    have E3 := Lib.hid e1
    clear hg hgs ha hb e0 e1 hal hbl hx hy
    obtain ⟨p, hp⟩ : ∃ p, F + i = p := ⟨_, rfl⟩
    have hpi : (F : Int) + (i : Int) = (p : Int) := by omega
    rw [hp] at hself HT2
    have HSELF := Lib.hid hself
    have HTB := Lib.hid (fun (W : World) (A : Option Addr) (c : Nat) (l : List Int) (h : Below w3.heap.size w3 W) (hr : Rd W 1 A l.length c (ints l)) (hl : l.length ≤ 1000000) => ctbl_any G A c l (p : Int) W ((HIN.out.later Q3.out).later h) (few24_fit HS.out) HWF.out hr hl ((HC.out.below Q3.out).below h))
    clear hself hp QW
    go_wp2_with fail
    refine wp_region_still_in (by kernel_rfl) (by kernel_rfl) fun St8 ne8 V8 hV8 hS8 => ?_
    have qk2 := still_cell hV8 k2
    have qe2 := still_cell hV8 e2
    have qe3 := still_cell hV8 e3
    repeat (first | go_big_quiet_step (fail) | quiet_step (fail))
    refine wpQuiet_nil ?_
    intro _ hw8
    obtain ⟨s8, rfl⟩ := hw8
    have hb8 := hV8 s8
    clear qk2 qe2 qe3 hS8
    generalize V8 s8 = w8 at hb8 ⊢
    clear hV8 s8 V8 ne8 St8
    have B8 := Lib.hid (below_then B1.out hb8)
    have X8 := Lib.hid (X4.out.keep hb8)
    clear hb8 k0 k1 k2 k3 e2 e3
    have k2 : w8.cell? ⟨w.heap.size, 2, none⟩ = some (.slice G.AA G.an.length G.cA) := X8.out.cell 2
    rw [HN.out, HPA.out] at k2
    have e2 : w8.cell? ga = some (.int .i64 (a : Int)) := ((below_then Q3.out B8.out).cell hgab).trans E2.out
    have e3 : w8.cell? ⟨ga.block, ga.off + 1, none⟩ = some (.int .i64 (b : Int)) := ((below_then Q3.out B8.out).cell (p := ⟨ga.block, ga.off + 1, none⟩) hgab).trans E3.out
    go_wp2_with fail
    refine wp_region_still_in (by kernel_rfl) (by kernel_rfl) fun St9 ne9 V9 hV9 hS9 => ?_
    have qk2 := still_cell hV9 k2
    have qe2 := still_cell hV9 e2
    have qe3 := still_cell hV9 e3
    repeat (first | go_big_quiet_step (fail) | quiet_step (fail))
    refine wpQuiet_nil ?_
    intro _ hw9
    obtain ⟨s9, rfl⟩ := hw9
    have hb9 := hV9 s9
    clear qk2 qe2 qe3 hS9
    generalize V9 s9 = w9 at hb9 ⊢
    clear hV9 s9 V9 ne9 St9
    have B9 := Lib.hid (below_then B8.out hb9)
    have X9 := Lib.hid (X8.out.keep hb9)
    clear hb9 k2 e2 e3 X8 X4
    have k0 := X9.out.cell 0
    have k1 := X9.out.cell 1
    have k2 : w9.cell? ⟨w.heap.size, 2, none⟩ = some (.slice G.AA G.an.length G.cA) := X9.out.cell 2
    have k3 := X9.out.cell 3
    rw [HPA.out] at k2
    have HT1 := Lib.hid (HTB.out (w9.alloc (.cells #[.int .i64 (p : Int)] 3)) (some ⟨w9.heap.size, 0, none⟩) 1 [(p : Int)] (below_then B9.out (below_new w9 _)) (rd_new w9 3 [.int .i64 (p : Int)]) (by simp))
    rw [HPA.out] at HT1
    go_wp2_with fail
    refine HT1.out.mono ?_
    intro e1 w10 h10
    obtain ⟨rfl, hb10⟩ := tbl_some 2 2 rfl HSELF.out h10
    have B10 := Lib.hid (below_then (below_then B9.out (below_new w9 _)) hb10)
    have X10 := Lib.hid (X3.out.keep B10.out)
    clear hb10 h10 k0 k1 k2 k3 HT1 X9
    obtain ⟨x2, hx2⟩ : ∃ q, x / 2 = q := ⟨_, rfl⟩
    obtain ⟨y2, hy2⟩ : ∃ q, y / 2 = q := ⟨_, rfl⟩
    obtain ⟨px, hpx⟩ : ∃ q, x % 2 = q := ⟨_, rfl⟩
    obtain ⟨py, hpy⟩ : ∃ q, y % 2 = q := ⟨_, rfl⟩
    have hx2i : (x : Int) / 2 = (x2 : Int) := by omega
    have hy2i : (y : Int) / 2 = (y2 : Int) := by omega
    have hpxi : (x : Int) % 2 = (px : Int) := by omega
    have hpyi : (y : Int) % 2 = (py : Int) := by omega
    rw [hx2, hy2, hpx, hpy] at HT2
    by_cases hne : x2 = y2
    case pos =>
      have g1 : ((x2 : Int) == (y2 : Int)) = true := by simp [hne]
      go_wp2_with fail
      go_roundw
      case rel => exact ⟨i + 1, by omega, by go_num, B10.out⟩
      case measure => simp [intOf]; omega
    have g1 : ((x2 : Int) == (y2 : Int)) = false := by simpa using fun h => hne (by omega)
    by_cases hx1 : x < 2
    case pos =>
      have g2 : decide ((x : Int) < 2) = true := decide_eq_true (by omega)
      go_wp2_with fail
      go_roundw
      case rel => exact ⟨i + 1, by omega, by go_num, B10.out⟩
      case measure => simp [intOf]; omega
    have g2 : decide ((x : Int) < 2) = false := decide_eq_false (by omega)
    have HGOOD := Lib.hid (HT2.out hne (by omega))
    have HT3 := Lib.hid (HTB.out (w10.alloc (.cells #[.int .i64 (x2 : Int), .int .i64 (y2 : Int)] 3)) (some ⟨w10.heap.size, 0, none⟩) 2 [(x2 : Int), (y2 : Int)] (below_then B10.out (below_new w10 _)) (rd_new w10 3 [.int .i64 (x2 : Int), .int .i64 (y2 : Int)]) (by simp))
    have k0 := X10.out.cell 0
    have k1 := X10.out.cell 1
    have k2 : w10.cell? ⟨w.heap.size, 2, none⟩ = some (.slice G.AA G.an.length G.cA) := X10.out.cell 2
    have k3 := X10.out.cell 3
    rw [HPA.out] at k2 HT3
    have hpx2 : px = 0 ∨ px = 1 := by omega
    have hpy2 : py = 0 ∨ py = 1 := by omega
    clear HT2 HTB hpx hpy
    rcases hpx2 with rfl | rfl
    · rcases hpy2 with rfl | rfl
      · go_wp2_with fail
        refine HT3.out.mono ?_
        intro e1 w11 h11
        obtain ⟨rfl, hb11⟩ := tbl_some 8 8 rfl HGOOD.out h11
        have B11 := Lib.hid (below_then (below_then B10.out (below_new w10 _)) hb11)
        clear hb11 h11 k0 k1 k2 k3 HT3
        go_wp2_with fail
        go_roundw
        case rel => exact ⟨i + 1, by omega, by go_num, B11.out⟩
        case measure => simp [intOf]; omega
      · go_wp2_with fail
        refine HT3.out.mono ?_
        intro e1 w11 h11
        obtain ⟨rfl, hb11⟩ := tbl_some 2 2 rfl HGOOD.out h11
        have B11 := Lib.hid (below_then (below_then B10.out (below_new w10 _)) hb11)
        clear hb11 h11 k0 k1 k2 k3 HT3
        go_wp2_with fail
        go_roundw
        case rel => exact ⟨i + 1, by omega, by go_num, B11.out⟩
        case measure => simp [intOf]; omega
    · rcases hpy2 with rfl | rfl
      · go_wp2_with fail
        refine HT3.out.mono ?_
        intro e1 w11 h11
        obtain ⟨rfl, hb11⟩ := tbl_some 4 4 rfl HGOOD.out h11
        have B11 := Lib.hid (below_then (below_then B10.out (below_new w10 _)) hb11)
        clear hb11 h11 k0 k1 k2 k3 HT3
        go_wp2_with fail
        go_roundw
        case rel => exact ⟨i + 1, by omega, by go_num, B11.out⟩
        case measure => simp [intOf]; omega
      · go_wp2_with fail
        refine HT3.out.mono ?_
        intro e1 w11 h11
        obtain ⟨rfl, hb11⟩ := tbl_some 1 1 rfl HGOOD.out h11
        have B11 := Lib.hid (below_then (below_then B10.out (below_new w10 _)) hb11)
        clear hb11 h11 k0 k1 k2 k3 HT3
        go_wp2_with fail
        go_roundw
        case rel => exact ⟨i + 1, by omega, by go_num, B11.out⟩
        case measure => simp [intOf]; omega

set_option maxRecDepth 100000 in
theorem cutsOwn_lifted (os : Os) (started : os.Started) (H : Type) (enc : TypeId × Value → H) :
    ReturnsInHanded {} Tryd.checked os 6 .any (fun w args => (Rows.cutsOwnSpec.pre enc Tryd.prog Tryd.f6 [] false w args ∧ laidMetH Tryd.prog laidC w) ∧ sizedMet enc Tryd.prog Tryd.f6 (OpenSpec.ofChange Rows.cutsOwnSpec) false w args)
      (Rows.cutsOwnSpec.post enc Tryd.prog Tryd.f6 false true false false) := by
  have hr : ∀ t ∈ Tryd.f6.params.toList, Tryd.prog.readableRec t = true ∧ t < Tryd.prog.types.size := by
    have h : Tryd.f6.params.toList.all (fun t => Tryd.prog.readableRec t && decide (t < Tryd.prog.types.size)) = true := by kernel_rfl
    intro t ht
    simpa using List.all_eq_true.1 h t ht
  refine returnsInHanded_of_change_and (C := Tryd.checked) (X := fun w _ => laidMetH Tryd.prog laidC w) (fun _ _ _ hh h => h.of_heap hh) own started (by kernel_rfl) Tryd.func6
    (ChangeSpec.witness_shaped (enc := enc) (C := Tryd.checked) (os := os) (X := fun w _ => laidMetH Tryd.prog laidC w) false (World.doorLaid Tryd.prog 400 os) #[.agg #[.int .i64 0, .slice none 0 0, .slice none 0 0, .slice none 0 0]] 8 rfl (World.shaped_of_RefB (by kernel_rfl) (by kernel_rfl)) (by kernel_rfl) (by kernel_rfl) (by kernel_rfl) (door_met os _)) ?_
  intro W base args ds gs before hval0 hW _ _ hL _
  have hcols := cols_of_laid hL
  have hval : ∀ (j : Nat) t v, Tryd.f6.params[j]? = some t → args[j]? = some v → Value.okWide Tryd.prog W .any base t v := hval0
  have hW' := hW
  obtain ⟨p, q, hA0, hV, rfl, hfz, hnd⟩ := hW
  have hA1 : DataW.TrodAll enc Tryd.prog W 0 (fun _ => true) true Tryd.f6.params.toList args.toList ds p := hA0
  have hA := hA1
  rw [Tryd.params6] at hA hval
  obtain ⟨v0, vs0, d0, ds0, p0, q0, hargs, rfl, rfl, h0, r0⟩ := trodAll_cons hA
  obtain ⟨rfl, rfl, rfl⟩ := trodAll_nil r0
  obtain rfl : args = #[v0] := by cases args; simp_all
  obtain ⟨rfl, rfl⟩ := trodVars_none hV
  obtain ⟨G0, rfl, hin0, hwf0⟩ := open_aig (hval 0 26 v0 rfl rfl) h0
  clear hA0 hval0
  simp only [List.append_nil] at hW' hA1
  refine (cutsOwn_walk G0 W hin0 hwf0 hcols).mono fun e W' ⟨he, hb⟩ => ?_
  subst he
  exact ⟨_, rfl, law_post laidOut hr rfl hW' hA1 rfl rfl Tryd.underlying4 hb⟩

theorem cutsOwn_over : Rows.cutsOwnRow.holds Tryd.pinned (OpenSpec.ofChange Rows.cutsOwnSpec) :=
  OpenClaim.holds_of_wide 6 Tryd.f6 rfl rfl rfl rfl rfl rfl rfl ⟨rfl, rfl, rfl, rfl, rfl⟩ rfl rfl rfl rfl rfl (by kernel_rfl) Tryd.func6 (by kernel_rfl)
    (of_decide_eq_true (by kernel_rfl)) (by unfold Func.isWrapper; first | (rw [if_pos (by decide +kernel)]; kernel_rfl) | (rw [if_neg (by decide +kernel)]; exact ⟨rfl, rfl⟩))
    (fun os started H enc _ => cutsOwn_lifted os started H enc)

/-- the card -/
theorem cutsOwnCard_holds : Rows.CutsOwnCardSaid :=
  Claim7.holds_tied_plain_at .later [] [.data] true Rows.cutsOwnCard.stood.harness false
    cutsOwn_over (fun _ h => by cases h) (by kernel_rfl) (fun _ h => by cases h) cutsOwn_row_tie rfl ⟨rfl, rfl⟩ (by kernel_rfl) rfl
    (fun f fn hf hfn => by
      obtain rfl : f = 6 := Option.some.inj ((show Tryd.prog.funcNamed "filigree/filigreelaw24.CutsOwn" = some 6 by kernel_rfl).symm.trans hf) |>.symm
      obtain rfl : fn = Tryd.f6 := (Option.some.inj (Tryd.func6.symm.trans hfn)).symm
      exact ⟨by kernel_rfl, fun j t ht => by
        have hall : (Tryd.f6.params.toList.all fun u => !Tryd.prog.wantsStandIn u) = true := by kernel_rfl
        have hm : t ∈ Tryd.f6.params.toList := by
          have := Array.mem_of_getElem? ht
          simpa using this
        exact (show Tryd.prog.wantsStandIn t = false by simpa using List.all_eq_true.1 hall t hm)⟩)
    (by kernel_rfl)
#print axioms cutsOwnCard_holds
end Go.Proofs.YtkhlllbceceikaaDoor
