/- The law CutsMore: a leaf more changes nothing: with the last node as a leaf more the table is the one that it was, twice. · The card ties the row of columns. -/
import Derived.Test.YtkhlllbceceikaaDoorOpenG
import Derived.Test.YtkhlllbceceikaaDoorFew24
import Derived.Test.YtkhlllbceceikaaDoorPlain24
import Derived.Test.YtkhlllbceceikaaDoorLive24
namespace Go.Proofs.YtkhlllbceceikaaDoor
open Go.ChangeShapes Go.WideShapes Go.ChangeAt Go.RowKit Go.Joins
set_option linter.unusedVariables false
set_option linter.unusedSimpArgs false
theorem tbl_is {o : Option Nat} {w w' : World} {r : Ending} (v : Nat) (z : Int) (hz : (v : Int) = z) (ho : o = some v) (h : TblOut o w r w') : r = .returned (.tuple #[.int .u64 z, .int .i64 0]) ∧ Below w.heap.size w w' := by
  subst ho; subst hz; exact h
/-- what the last node as a leaf more gives -/
theorem AG.good_more {G : AG} {l : List Int} {node : Int} {t : Nat} (hl : l.length ≤ 5) (h : G.good l node = some t) (hlast : node < G.cnt) (hend : 0 < l.length → l.getD (l.length - 1) 0 < G.cnt) : G.good (l ++ [G.cnt]) node = some (t ||| t <<< 2 ^ l.length) ∧ t < 2 ^ 2 ^ l.length := by
  by_cases hc : G.ok ∧ 0 ≤ node ∧ node ≤ G.cnt ∧ leavesB G.cnt l = true
  case neg => rw [AG.good_no hc] at h; cases h
  rw [AG.good_yes hc] at h
  have hr := leavesB_rises hc.2.2.2
  have hmem := fun i hi => leavesB_mem hc.2.2.2 (i := i) hi
  have hm := G.table_more hl (z := G.cnt) (by omega) h
  have hlv : leavesB G.cnt (l ++ [G.cnt]) = true := by
    simp only [leavesB, Bool.and_eq_true, Bool.or_eq_true, decide_eq_true_eq, List.length_append, List.length_singleton]
    refine ⟨⟨by omega, ?_⟩, .inr ⟨?_, ?_⟩⟩
    · refine List.pairwise_append.2 ⟨hr, List.pairwise_singleton _ _, fun x hx y hy => ?_⟩
      rw [List.mem_singleton] at hy
      subst hy
      obtain ⟨i, hi, rfl⟩ := List.getElem_of_mem hx
      have e : l.getD i 0 = l[i] := by rw [List.getD_eq_getElem?_getD, List.getElem?_eq_getElem hi]; rfl
      rw [← e]
      have h1 := hend (by omega)
      rcases Nat.lt_or_ge i (l.length - 1) with hp | hp
      · have := rises_at hr hp (by omega); omega
      · rw [show i = l.length - 1 by omega]; exact h1
    · rcases Nat.eq_zero_or_pos l.length with h0 | h0
      · obtain rfl := List.eq_nil_of_length_eq_zero h0
        show 1 ≤ G.cnt
        omega
      · rw [getD_left _ _ _ h0]; exact (hmem 0 h0).1
    · rw [show l.length + 1 - 1 = l.length by omega, List.getD_eq_getElem?_getD, List.getElem?_append_right (Nat.le_refl _), Nat.sub_self]
      exact Int.le_refl _
  rw [AG.good_yes ⟨hc.1, hc.2.1, hc.2.2.1, hlv⟩]
  exact hm
theorem or_fact {t u K s : Nat} (h : t ||| t <<< s = u) (hs : 2 ^ s = K) (ht : t < K) (hK : K ≤ 4294967296) : ((u : Int) == bits .or .u64 (t : Int) ((t : Int) * (K : Int))) = true := by
  have h1 : t * K ≤ K * K := Nat.mul_le_mul (Nat.le_of_lt ht) (Nat.le_refl _)
  have h2 : K * K ≤ 4294967296 * 4294967296 := Nat.mul_le_mul hK hK
  have h3 : t * K < K * K := Nat.mul_lt_mul_of_pos_right ht (by omega)
  rw [← Int.natCast_mul, u64_or_nat t (t * K) (by omega) (by omega), ← h, Nat.shiftLeft_eq, hs]
  simp
set_option maxRecDepth 100000 in
theorem rcount_free (G : AG) (w : World) :
    Calls Tryd.prog 27 #[.agg #[.int .i64 G.I, .slice G.AF G.fl.length G.cF, .slice G.AA G.an.length G.cA, .slice G.AO G.ou.length G.cO]] w fun r w' => (∃ z, r = .returned (.int .i64 z)) ∧ Below w.heap.size w w' := by
  have B1 := Lib.hid (below_new w (.cells #[.int .i64 G.I, .slice G.AF G.fl.length G.cF, .slice G.AA G.an.length G.cA, .slice G.AO G.ou.length G.cO] 26))
  go_enter Tryd.func27, Tryd.ntmps27
  go_wp2_with fail
  go_ret
  exact ⟨⟨_, rfl⟩, B1.out⟩

set_option maxRecDepth 100000 in
set_option maxHeartbeats 4000000 in
theorem cutsMore_walk (G : AG) (node : Int) (A : Option Addr) (c : Nat) (l : List Int) (w : World)
    (hin : G.In w) (hwf : G.wf) (hrl : Rd w 1 A l.length c (ints l)) (hbl : ∀ x ∈ l, -9223372036854775808 ≤ x ∧ x ≤ 9223372036854775807) (hcols : COLS w) :
    Calls Tryd.prog 7 #[.agg #[.int .i64 G.I, .slice G.AF G.fl.length G.cF, .slice G.AA G.an.length G.cA, .slice G.AO G.ou.length G.cO], .int .i64 node, .slice A l.length c] w fun e w' => e = .returned (.bool true) ∧ Below w.heap.size w w' := by
  have X0 := Lib.hid (Blk.made w 26 #[.int .i64 G.I, .slice G.AF G.fl.length G.cF, .slice G.AA G.an.length G.cA, .slice G.AO G.ou.length G.cO])
  have Q0 := Lib.hid (below_new w (.cells #[.int .i64 G.I, .slice G.AF G.fl.length G.cF, .slice G.AA G.an.length G.cA, .slice G.AO G.ou.length G.cO] 26))
  have HIN := Lib.hid hin
  have HWF := Lib.hid hwf
  have HRL := Lib.hid hrl
  have HC := Lib.hid hcols
  clear hin hwf hrl hcols hbl
  have hf0 := few24_any G
  have HF := Lib.hid hf0
  clear hf0
  go_enter Tryd.func7, Tryd.ntmps7
  go_wp2_with fail
  refine (live24_any _ (HC.out.below Q0.out)).mono ?_
  rintro e1 w1 ⟨rfl, hb1⟩
  have Q1 := Lib.hid (below_then Q0.out hb1)
  have X1 := Lib.hid (X0.out.keep hb1)
  clear hb1
  have k0 := X1.out.cell 0
  have k1 := X1.out.cell 1
  have k2 := X1.out.cell 2
  have k3 := X1.out.cell 3
  go_wp2_with fail
  refine (HF.out _).mono ?_
  rintro e1 w2 ⟨rfl, hb2⟩
  have Q2 := Lib.hid (below_then Q1.out hb2)
  have X2 := Lib.hid (X1.out.keep hb2)
  clear hb2 k0 k1 k2 k3 X1
  by_cases hs : few24 G
  case neg =>
    rw [show decide (few24 G) = false from decide_eq_false hs]
    go_wp2_with fail
    go_ret
    exact ⟨rfl, Q2.out⟩
  rw [show decide (few24 G) = true from decide_eq_true hs]
  have HS := Lib.hid hs
  clear hs
  by_cases h1 : (l.length : Int) ≤ 5
  case neg =>
    have h1' : decide ((5 : Int) < (l.length : Int)) = true := decide_eq_true (by omega)
    go_wp2_with fail
    go_ret
    exact ⟨rfl, Q2.out⟩
  have h1' : decide ((5 : Int) < (l.length : Int)) = false := decide_eq_false (by omega)
  have N1 := Lib.hid (show l.length ≤ 5 by omega)
  have k0 := X2.out.cell 0
  have k1 := X2.out.cell 1
  have k2 := X2.out.cell 2
  have k3 := X2.out.cell 3
  have HT := Lib.hid (ctbl_any G A c l node w2 (HIN.out.later Q2.out) (few24_fit HS.out) HWF.out (HRL.out.later Q2.out) (by have := N1.out; omega) (HC.out.below Q2.out))
  cases hg : G.good l node with
  | none =>
    rw [hg] at HT
    go_wp2_with fail
    refine HT.out.mono ?_
    rintro e1 w3 ⟨rfl, hb3⟩
    have Q3 := Lib.hid (below_then Q2.out hb3)
    have X3 := Lib.hid (X2.out.keep hb3)
    rw [show optV none = 0 from rfl, show optE none = 1 from rfl]
    clear hb3 k0 k1 k2 k3 X2
    have k0 := X3.out.cell 0
    have k1 := X3.out.cell 1
    have k2 := X3.out.cell 2
    have k3 := X3.out.cell 3
    go_wp2_with fail
    refine (rcount_free G w3).mono ?_
    rintro e1 w4 ⟨⟨z, rfl⟩, hb4⟩
    have Q4 := Lib.hid (below_then Q3.out hb4)
    clear hb4 k0 k1 k2 k3
    go_wp2_with fail
    go_ret
    exact ⟨rfl, Q4.out⟩
  | some t =>
    have HG := Lib.hid hg
    have hok : G.ok ∧ 0 ≤ node ∧ node ≤ G.cnt ∧ leavesB G.cnt l = true := by
      refine Classical.byContradiction fun h => ?_
      rw [AG.good_no h] at hg; cases hg
    have HOK := Lib.hid hok
    clear hg hok
    go_wp2_with fail
    refine HT.out.mono ?_
    intro e1 w3 h3
    obtain ⟨rfl, hb3⟩ := tbl_is t (t : Int) rfl HG.out h3
    have Q3 := Lib.hid (below_then Q2.out hb3)
    have X3 := Lib.hid (X2.out.keep hb3)
    clear hb3 h3 k0 k1 k2 k3 X2
    have k0 := X3.out.cell 0
    have k1 := X3.out.cell 1
    have k2 := X3.out.cell 2
    have k3 := X3.out.cell 3
    obtain ⟨q, hq⟩ : ∃ q, G.cnt = q := ⟨_, rfl⟩
    have HQ := Lib.hid hq
    have hcntb : 0 ≤ q ∧ q ≤ 1000 := by have := HOK.out.1.1; have h1 := HS.out.1; have h2 := HS.out.2.1; have h3 := HS.out.2.2.1; rw [← hq]; unfold AG.cnt; omega
    have RC := Lib.hid (rcount_any G w3 HOK.out.1.1 (few24_fit HS.out))
    rw [hq] at RC
    clear hq
    go_wp2_with fail
    refine RC.out.mono ?_
    rintro e1 w4 ⟨rfl, hb4⟩
    have Q4 := Lib.hid (below_then Q3.out hb4)
    have X4 := Lib.hid (X3.out.keep hb4)
    clear hb4 k0 k1 k2 k3 X3 RC
    have hq1 : 1 + q - 1 = q := by omega
    by_cases hnode : q ≤ node
    case pos =>
      go_wp2_with fail
      go_ret
      exact ⟨rfl, Q4.out⟩
    have HND := Lib.hid hnode
    rcases Nat.eq_zero_or_pos l.length with h0 | h0
    · have hd0 : decide (0 < l.length) = false := decide_eq_false (by omega)
      have hnd : decide (q ≤ node) = false := decide_eq_false hnode
      have END := Lib.hid (show 0 < l.length → l.getD (l.length - 1) 0 < q from fun h => absurd h (by omega))
      clear h0
      go_wp2_with (at_builtin; refine wpList_app_ints rfl (.tmp 57) (.tmp 58) rfl w4.heap.size (some ⟨w4.heap.size, 0, none⟩) 0 0 [] rfl (own_laid w4 3 [] 0 w4.heap.size rfl (Nat.le_refl _) (by omega)) A l.length c l rfl (HRL.out.later (below_then Q4.out (below_new _ _))) (by have := N1.out; omega) (by simp) ?_)
      intro A5 c5 w5 hown5 hgr5
      have B5 := Lib.hid (show Below w4.heap.size w4 w5 from (below_new w4 _).grown hgr5 (below_new w4 _).size (fun q hq => own_base (own_laid w4 3 [] 0 w4.heap.size rfl (Nat.le_refl _) (by omega)) hq))
      have O5 := Lib.hid (show w5.ownsRow w4.heap.size 3 1 (.slice A5 l.length c5) l.length (ints l) from by have h := hown5; simpa using h)
      clear hown5 hgr5
      go_wp2_with (at_builtin; refine wpList_app_int rfl (.tmp 60) (.tmp 62) rfl w4.heap.size A5 l.length c5 l rfl O5.out q rfl (by have := N1.out; omega) B5.out.size ?_)
      intro A6 c6 w6 hown6 hgr6
      have B6 := Lib.hid (show Below w4.heap.size w4 w6 from (below_then B5.out (below_new w5 _)).grown hgr6 (below_then B5.out (below_new w5 _)).size (fun q hq => own_base O5.out hq))
      have Q6 := Lib.hid (below_then Q4.out B6.out)
      have X6 := Lib.hid (X4.out.keep B6.out)
      have R6 := Rd.of_own hown6
      have HTM := ctbl_any G A6 c6 (l ++ [q]) node w6 (HIN.out.later Q6.out) (few24_fit HS.out) HWF.out (by rw [List.length_append, List.length_singleton]; exact R6) (by rw [List.length_append, List.length_singleton]; have := N1.out; omega) (HC.out.below Q6.out)
      rw [List.length_append, List.length_singleton] at HTM
      have HTMH := Lib.hid HTM
      have hgm := AG.good_more N1.out HG.out (by have := HQ.out; omega) (by rw [HQ.out]; exact END.out)
      rw [HQ.out] at hgm
      have HGM := Lib.hid hgm
      clear hown6 hgr6 R6 HTM hgm
      have k0 := X6.out.cell 0
      have k1 := X6.out.cell 1
      have k2 := X6.out.cell 2
      have k3 := X6.out.cell 3
      go_wp2_with fail
      refine HTMH.out.mono ?_
      intro e1 w7 h7
      obtain ⟨u, hu⟩ : ∃ u, t ||| t <<< 2 ^ l.length = u := ⟨_, rfl⟩
      obtain ⟨rfl, hb7⟩ := tbl_is u (u : Int) rfl (hu ▸ HGM.out.1) h7
      have Q7 := Lib.hid (below_then Q6.out hb7)
      have ht := HGM.out.2
      have hm5 := N1.out
      clear h7 hb7 k0 k1 k2 k3 HTMH HGM HG END HT O5 N1 h1 h1'
      generalize l.length = m at hu ht hm5 ⊢
      have hm6 : m = 0 ∨ m = 1 ∨ m = 2 ∨ m = 3 ∨ m = 4 ∨ m = 5 := by omega
      rcases hm6 with rfl | rfl | rfl | rfl | rfl | rfl
      · have e := or_fact (K := 2) hu rfl ht (by decide)
        rw [show ((2 : Nat) : Int) = 2 from rfl] at e
        go_wp2_with fail
        go_ret
        exact ⟨rfl, Q7.out⟩
      · have e := or_fact (K := 4) hu rfl ht (by decide)
        rw [show ((4 : Nat) : Int) = 4 from rfl] at e
        go_wp2_with fail
        go_ret
        exact ⟨rfl, Q7.out⟩
      · have e := or_fact (K := 16) hu rfl ht (by decide)
        rw [show ((16 : Nat) : Int) = 16 from rfl] at e
        go_wp2_with fail
        go_ret
        exact ⟨rfl, Q7.out⟩
      · have e := or_fact (K := 256) hu rfl ht (by decide)
        rw [show ((256 : Nat) : Int) = 256 from rfl] at e
        go_wp2_with fail
        go_ret
        exact ⟨rfl, Q7.out⟩
      · have e := or_fact (K := 65536) hu rfl ht (by decide)
        rw [show ((65536 : Nat) : Int) = 65536 from rfl] at e
        go_wp2_with fail
        go_ret
        exact ⟨rfl, Q7.out⟩
      · have e := or_fact (K := 4294967296) hu rfl ht (by decide)
        rw [show ((4294967296 : Nat) : Int) = 4294967296 from rfl] at e
        go_wp2_with fail
        go_ret
        exact ⟨rfl, Q7.out⟩
    · have hd0 : decide (0 < l.length) = true := decide_eq_true h0
      have hnd : decide (q ≤ node) = false := decide_eq_false hnode
      obtain ⟨j, hj⟩ : ∃ j, l.length - 1 = j := ⟨_, rfl⟩
      obtain ⟨pl, hPL, hplb, d0⟩ := HRL.out.int (k := j) (by omega)
      subst hPL
      have d1 := (Q4.out.cell (p := pl.add j) (by rw [add_block]; exact hplb)).trans d0
      obtain ⟨y, hy⟩ : ∃ y, l.getD j 0 = y := ⟨_, rfl⟩
      rw [hy] at d1
      have hji : (l.length : Int) - 1 = (j : Int) := by omega
      have hjl : (j : Int) < (l.length : Int) := by omega
      have END0 := Lib.hid (show y < q → 0 < l.length → l.getD (l.length - 1) 0 < q from fun h _ => by rw [hj, hy]; exact h)
      clear h0 hj hy d0
      by_cases hyq : q ≤ y
      case pos =>
        have hdy : decide (q ≤ y) = true := decide_eq_true hyq
        go_wp2_with fail
        go_ret
        exact ⟨rfl, Q4.out⟩
      have hdy : decide (q ≤ y) = false := decide_eq_false hyq
      have END := Lib.hid (END0.out (by omega))
      clear END0
      go_wp2_with (at_builtin; refine wpList_app_ints rfl (.tmp 57) (.tmp 58) rfl w4.heap.size (some ⟨w4.heap.size, 0, none⟩) 0 0 [] rfl (own_laid w4 3 [] 0 w4.heap.size rfl (Nat.le_refl _) (by omega)) (some pl) l.length c l rfl (HRL.out.later (below_then Q4.out (below_new _ _))) (by have := N1.out; omega) (by simp) ?_)
      intro A5 c5 w5 hown5 hgr5
      have B5 := Lib.hid (show Below w4.heap.size w4 w5 from (below_new w4 _).grown hgr5 (below_new w4 _).size (fun q hq => own_base (own_laid w4 3 [] 0 w4.heap.size rfl (Nat.le_refl _) (by omega)) hq))
      have O5 := Lib.hid (show w5.ownsRow w4.heap.size 3 1 (.slice A5 l.length c5) l.length (ints l) from by have h := hown5; simpa using h)
      clear hown5 hgr5
      go_wp2_with (at_builtin; refine wpList_app_int rfl (.tmp 60) (.tmp 62) rfl w4.heap.size A5 l.length c5 l rfl O5.out q rfl (by have := N1.out; omega) B5.out.size ?_)
      intro A6 c6 w6 hown6 hgr6
      have B6 := Lib.hid (show Below w4.heap.size w4 w6 from (below_then B5.out (below_new w5 _)).grown hgr6 (below_then B5.out (below_new w5 _)).size (fun q hq => own_base O5.out hq))
      have Q6 := Lib.hid (below_then Q4.out B6.out)
      have X6 := Lib.hid (X4.out.keep B6.out)
      have R6 := Rd.of_own hown6
      have HTM := ctbl_any G A6 c6 (l ++ [q]) node w6 (HIN.out.later Q6.out) (few24_fit HS.out) HWF.out (by rw [List.length_append, List.length_singleton]; exact R6) (by rw [List.length_append, List.length_singleton]; have := N1.out; omega) (HC.out.below Q6.out)
      rw [List.length_append, List.length_singleton] at HTM
      have HTMH := Lib.hid HTM
      have hgm := AG.good_more N1.out HG.out (by have := HQ.out; omega) (by rw [HQ.out]; exact END.out)
      rw [HQ.out] at hgm
      have HGM := Lib.hid hgm
      clear hown6 hgr6 R6 HTM hgm
      have k0 := X6.out.cell 0
      have k1 := X6.out.cell 1
      have k2 := X6.out.cell 2
      have k3 := X6.out.cell 3
      go_wp2_with fail
      refine HTMH.out.mono ?_
      intro e1 w7 h7
      obtain ⟨u, hu⟩ : ∃ u, t ||| t <<< 2 ^ l.length = u := ⟨_, rfl⟩
      obtain ⟨rfl, hb7⟩ := tbl_is u (u : Int) rfl (hu ▸ HGM.out.1) h7
      have Q7 := Lib.hid (below_then Q6.out hb7)
      have ht := HGM.out.2
      have hm5 := N1.out
      clear h7 hb7 k0 k1 k2 k3 HTMH HGM HG END HT O5 N1 h1 h1'
      generalize l.length = m at hu ht hm5 ⊢
      have hm6 : m = 0 ∨ m = 1 ∨ m = 2 ∨ m = 3 ∨ m = 4 ∨ m = 5 := by omega
      rcases hm6 with rfl | rfl | rfl | rfl | rfl | rfl
      · have e := or_fact (K := 2) hu rfl ht (by decide)
        rw [show ((2 : Nat) : Int) = 2 from rfl] at e
        go_wp2_with fail
        go_ret
        exact ⟨rfl, Q7.out⟩
      · have e := or_fact (K := 4) hu rfl ht (by decide)
        rw [show ((4 : Nat) : Int) = 4 from rfl] at e
        go_wp2_with fail
        go_ret
        exact ⟨rfl, Q7.out⟩
      · have e := or_fact (K := 16) hu rfl ht (by decide)
        rw [show ((16 : Nat) : Int) = 16 from rfl] at e
        go_wp2_with fail
        go_ret
        exact ⟨rfl, Q7.out⟩
      · have e := or_fact (K := 256) hu rfl ht (by decide)
        rw [show ((256 : Nat) : Int) = 256 from rfl] at e
        go_wp2_with fail
        go_ret
        exact ⟨rfl, Q7.out⟩
      · have e := or_fact (K := 65536) hu rfl ht (by decide)
        rw [show ((65536 : Nat) : Int) = 65536 from rfl] at e
        go_wp2_with fail
        go_ret
        exact ⟨rfl, Q7.out⟩
      · have e := or_fact (K := 4294967296) hu rfl ht (by decide)
        rw [show ((4294967296 : Nat) : Int) = 4294967296 from rfl] at e
        go_wp2_with fail
        go_ret
        exact ⟨rfl, Q7.out⟩

set_option maxRecDepth 100000 in
theorem cutsMore_lifted (os : Os) (started : os.Started) (H : Type) (enc : TypeId × Value → H) :
    ReturnsInHanded {} Tryd.checked os 7 .any (fun w args => (Rows.cutsMoreSpec.pre enc Tryd.prog Tryd.f7 [] false w args ∧ laidMetH Tryd.prog laidC w) ∧ sizedMet enc Tryd.prog Tryd.f7 (OpenSpec.ofChange Rows.cutsMoreSpec) false w args)
      (Rows.cutsMoreSpec.post enc Tryd.prog Tryd.f7 false true false false) := by
  have hr : ∀ t ∈ Tryd.f7.params.toList, Tryd.prog.readableRec t = true ∧ t < Tryd.prog.types.size := by
    have h : Tryd.f7.params.toList.all (fun t => Tryd.prog.readableRec t && decide (t < Tryd.prog.types.size)) = true := by kernel_rfl
    intro t ht
    simpa using List.all_eq_true.1 h t ht
  refine returnsInHanded_of_change_and (C := Tryd.checked) (X := fun w _ => laidMetH Tryd.prog laidC w) (fun _ _ _ hh h => h.of_heap hh) own started (by kernel_rfl) Tryd.func7
    (ChangeSpec.witness_shaped (enc := enc) (C := Tryd.checked) (os := os) (X := fun w _ => laidMetH Tryd.prog laidC w) false (World.doorLaid Tryd.prog 400 os) #[.agg #[.int .i64 0, .slice none 0 0, .slice none 0 0, .slice none 0 0], .int .i64 0, .slice none 0 0] 8 rfl (World.shaped_of_RefB (by kernel_rfl) (by kernel_rfl)) (by kernel_rfl) (by kernel_rfl) (by kernel_rfl) (door_met os _)) ?_
  intro W base args ds gs before hval0 hW _ _ hL _
  have hcols := cols_of_laid hL
  have hval : ∀ (j : Nat) t v, Tryd.f7.params[j]? = some t → args[j]? = some v → Value.okWide Tryd.prog W .any base t v := hval0
  have hW' := hW
  obtain ⟨p, q, hA0, hV, rfl, hfz, hnd⟩ := hW
  have hA1 : DataW.TrodAll enc Tryd.prog W 0 (fun _ => true) true Tryd.f7.params.toList args.toList ds p := hA0
  have hA := hA1
  rw [Tryd.params7] at hA hval
  obtain ⟨v0, vs0, d0, ds0, p0, q0, hargs, rfl, rfl, h0, r0⟩ := trodAll_cons hA
  obtain ⟨v1, vs1, d1, ds1, p1, q1, rfl, rfl, rfl, h1, r1⟩ := trodAll_cons r0
  obtain ⟨v2, vs2, d2, ds2, p2, q2, rfl, rfl, rfl, h2, r2⟩ := trodAll_cons r1
  obtain ⟨rfl, rfl, rfl⟩ := trodAll_nil r2
  obtain rfl : args = #[v0, v1, v2] := by cases args; simp_all
  obtain ⟨rfl, rfl⟩ := trodVars_none hV
  obtain ⟨G0, rfl, hin0, hwf0⟩ := open_aig (hval 0 26 v0 rfl rfl) h0
  obtain ⟨a1, rfl, rfl, rfl, w1⟩ := open_int Tryd.underlying3 (hval 1 3 v1 rfl rfl) h1
  obtain ⟨A2, c2, l2, rfl, hr2, hb2⟩ := open_list (hval 2 24 v2 rfl rfl) h2
  clear hA0 hval0
  simp only [List.append_nil] at hW' hA1
  refine (cutsMore_walk G0 a1 A2 c2 l2 W hin0 hwf0 hr2 hb2 hcols).mono fun e W' ⟨he, hb⟩ => ?_
  subst he
  exact ⟨_, rfl, law_post laidOut hr rfl hW' hA1 rfl rfl Tryd.underlying4 hb⟩

theorem cutsMore_over : Rows.cutsMoreRow.holds Tryd.pinned (OpenSpec.ofChange Rows.cutsMoreSpec) :=
  OpenClaim.holds_of_wide 7 Tryd.f7 rfl rfl rfl rfl rfl rfl rfl ⟨rfl, rfl, rfl, rfl, rfl⟩ rfl rfl rfl rfl rfl (by kernel_rfl) Tryd.func7 (by kernel_rfl)
    (of_decide_eq_true (by kernel_rfl)) (by unfold Func.isWrapper; first | (rw [if_pos (by decide +kernel)]; kernel_rfl) | (rw [if_neg (by decide +kernel)]; exact ⟨rfl, rfl⟩))
    (fun os started H enc _ => cutsMore_lifted os started H enc)

/-- the card -/
theorem cutsMoreCard_holds : Rows.CutsMoreCardSaid :=
  Claim7.holds_tied_plain_at .later [] [.data] true Rows.cutsMoreCard.stood.harness false
    cutsMore_over (fun _ h => by cases h) (by kernel_rfl) (fun _ h => by cases h) cutsMore_row_tie rfl ⟨rfl, rfl⟩ (by kernel_rfl) rfl
    (fun f fn hf hfn => by
      obtain rfl : f = 7 := Option.some.inj ((show Tryd.prog.funcNamed "filigree/filigreelaw24.CutsMore" = some 7 by kernel_rfl).symm.trans hf) |>.symm
      obtain rfl : fn = Tryd.f7 := (Option.some.inj (Tryd.func7.symm.trans hfn)).symm
      exact ⟨by kernel_rfl, fun j t ht => by
        have hall : (Tryd.f7.params.toList.all fun u => !Tryd.prog.wantsStandIn u) = true := by kernel_rfl
        have hm : t ∈ Tryd.f7.params.toList := by
          have := Array.mem_of_getElem? ht
          simpa using this
        exact (show Tryd.prog.wantsStandIn t = false by simpa using List.all_eq_true.1 hall t hm)⟩)
    (by kernel_rfl)
#print axioms cutsMoreCard_holds
end Go.Proofs.YtkhlllbceceikaaDoor
