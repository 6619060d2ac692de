/- Walk of filigree/fabric.Near: whom a node has a switch to, in order. -/
import Derived.Test.YtfclfhgnfjmofaaNearP
import Derived.Test.YtfclfhgnfjmofaaEdE
import Derived.Sort.OwnSortedInts
import Derived.Laws.StructEq
import Derived.Test.YtfclfhgnfjmofaaShelf
namespace Go.Proofs.Ytfclfhgnfjmofaa
open Go.RowKit Go.Sort
set_option linter.unusedVariables false
set_option linter.unusedSimpArgs false

/-- two pairs held against each other -/
theorem pair_eq (a b c d : Int) (w : World) : (Op.equalIn 10000 53 (.agg #[.int .i64 a, .int .i64 b]) (.agg #[.int .i64 c, .int .i64 d])).run Try.prog w = .ok (a == c && b == d) w := by
  have u3 := Try.underlying3
  have a3 := Try.isAgg3
  have z3 := Try.sizeOf3
  rw [show (10000 : Nat) = 9999 + 1 from rfl, Op.equalIn]
  simp only [Sem.run_bind, run_underlying Try.underlying53, Result.andThen_ok]
  simp only [Std.Legacy.Range.forIn_eq_forIn_range', Std.Legacy.Range.size, Nat.sub_zero, Nat.add_sub_cancel, Nat.div_one, List.range'_succ, List.range'_zero, List.forIn_cons, List.forIn_nil]
  go_simp
  by_cases h1 : a = c <;> by_cases h2 : b = d <;> simp [h1, h2]
/-- a row of the call's own, told of a lower bound -/
theorem own_lower {w : World} {base base' : Nat} {e : TypeId} {size n : Nat} {v : Value} {xs : List Value} (h : w.ownsRow base e size v n xs) (hb : base' ≤ base) : w.ownsRow base' e size v n xs := by
  refine ⟨h.1, ?_⟩
  rcases h.2 with h2 | ⟨g, cap, cur, hv, hg, hh⟩
  · exact .inl h2
  · exact .inr ⟨g, cap, cur, hv, Nat.le_trans hb hg, hh⟩
section
variable {ops : Array Oper} {rest : List Oper} {o : Oper} {a : Act} {Q : Exit → Act → World → Prop}
theorem wpList_app_int2 (hgd : o.guard = none) (s x : Operand) (ho : o.op = .call { callee := .builtin .append, args := #[s, x], argTypes := #[26, 26] })
    {W : World} (base : Nat) (A : Option Addr) (k c : Nat) (L : List Int) (hs : a.eval s = .slice A k c) (O : W.ownsRow base 3 1 (.slice A k c) k (ints L)) (z : Int) (g : Nat) (hx : a.eval x = .slice (some ⟨g, 0, none⟩) 1 1) (hg : g = W.heap.size)
    (hk : k ≤ 100000000) (hb : base ≤ W.heap.size)
    (h : ∀ A' c' w', w'.ownsRow base 3 1 (.slice A' (k + 1) c') (k + 1) (ints (L ++ [z])) → (W.alloc (.cells #[.int .i64 z] 3)).grownBy w' (Value.slice A k c).ownBlock → wpList Try.prog ops Q rest (a.put o.dst (.slice A' (k + 1) c')) w') :
    wpList Try.prog ops Q (o :: rest) a (W.alloc (.cells #[.int .i64 z] 3)) := by
  subst hg
  exact wpList_app_int hgd s x ho base A k c L hs O z hx hk hb h
end
/-- the library's sort of ints that are in order already -/
theorem sort_ints (w : World) (base : Nat) (A : Option Addr) (n c : Nat) (L : List Int) (hL : L.Pairwise (· < ·)) (ho : w.ownsRow base 3 1 (.slice A n c) n (ints L)) (hb : base ≤ w.heap.size) (hn : n ≤ 100000000) :
    Calls Try.prog 88 #[.slice A n c] w fun e w' => e = .returned (.tuple #[]) ∧ w'.ownsRow base 3 1 (.slice A n c) n (ints L) ∧ Below base w w' := by
  have hl : L.length = n := by have := ho.1; rw [ints_length] at this; omega
  rcases Nat.eq_zero_or_pos n with h0 | h0
  · subst h0
    have h := AnyM.slices_Sort_int_none Try.sortInt A c w
    change Calls Try.prog 88 _ _ _ at h
    refine h.mono ?_
    rintro e w' ⟨rfl, rfl⟩
    exact ⟨rfl, ho, Below.refl _ _⟩
  · rcases ho.2 with ⟨hv, hz⟩ | ⟨g, cap, cur, hv, hg, hh, hc, hm, hs, ht⟩
    · omega
    · injection hv with h1 h2 h3
      subst h1 h3
      have hlt := lt_of_block hh
      have hsl : L.mergeSort (fun x y => decide (x ≤ y)) = L := sorted_le hL
      have hH : Holds (Value.int .i64) w g 0 L.toArray := holds_of_blockI hh (by rw [hl]; simpa [ints] using ht)
      have h := AnyM.slices_Sort_int Try.sortInt g 0 c L w hH hlt (by omega)
      change Calls Try.prog 88 _ _ _ at h
      rw [hl] at h
      refine h.mono ?_
      rintro e w' ⟨rfl, k, os, rfl⟩
      rw [hsl]
      refine ⟨rfl, ?_, ?_⟩
      · have := ownsRow_sortedI (os := os) (n := k) (ts := L) (ss := L) rfl hg hh (by omega) hm hs
        rw [hl] at this
        exact this
      · exact (Below.refl _ _).grown (grownBy_sortedI _) hb (fun j hj => by cases hj; exact hg)

/-- what Near answers: its numbers, its error -/
def nearO (W H T n : Int) : List Int := if isN W H T n then nearL W H T n else []
def nearE (W H T n : Int) : Int := if isN W H T n then 0 else 1
def NearP (W H T n : Int) (w : World) (e : Ending) (w' : World) : Prop :=
  ∃ A c, e = .returned (.tuple #[.slice A (nearO W H T n).length c, .int .i64 (nearE W H T n)]) ∧ Below w.heap.size w w' ∧ w'.ownsRow w.heap.size 3 1 (.slice A (nearO W H T n).length c) (nearO W H T n).length (ints (nearO W H T n))
theorem nearP_no {W H T n : Int} {w w' : World} (h : ¬ isN W H T n) (hb : Below w.heap.size w w') : NearP W H T n w (.returned (.tuple #[.slice none 0 0, .int .i64 1])) w' := by
  refine ⟨none, 0, ?_, hb, ?_⟩
  · rw [show nearO W H T n = [] from if_neg h, show nearE W H T n = 1 from if_neg h]; rfl
  · rw [show nearO W H T n = [] from if_neg h]; exact World.ownsRow_nil _ _ _ _
theorem nearP_yes {W H T n : Int} {w w' : World} {A : Option Addr} {c k : Nat} {L : List Int} (h : isN W H T n) (hL : nearL W H T n = L) (hk : L.length = k) (hb : Below w.heap.size w w') (ho : w'.ownsRow w.heap.size 3 1 (.slice A k c) k (ints L)) :
    NearP W H T n w (.returned (.tuple #[.slice A k c, .int .i64 0])) w' := by
  subst hk
  refine ⟨A, c, ?_, hb, ?_⟩
  · rw [show nearO W H T n = nearL W H T n from if_pos h, show nearE W H T n = 0 from if_pos h, hL]
  · rw [show nearO W H T n = nearL W H T n from if_pos h, hL]; exact ho

theorem pnear_low (W H T n : Int) (w : World) (h : n < 0) :
    Calls Try.prog 37 #[.agg #[.int .i64 W, .int .i64 H, .int .i64 T], .int .i64 n] w (NearP W H T n w) := by
  have hN : ¬ isN W H T n := fun hx => by have := hx.2.1; omega
  obtain ⟨R, hR⟩ : ∃ R, NearP W H T n w = R := ⟨_, rfl⟩
  rw [hR]
  have HR := Lib.hid hR
  clear hR
  go_enter Try.func37, Try.ntmps37
  go_wp2_with fail
  rw [← HR.out]
  exact nearP_no hN (below_new w _)
theorem pnear_high (W H T n : Int) (w : World) (h0 : ¬ n < 0) (h : nodesO W H T ≤ n) :
    Calls Try.prog 37 #[.agg #[.int .i64 W, .int .i64 H, .int .i64 T], .int .i64 n] w (NearP W H T n w) := by
  have hN : ¬ isN W H T n := fun hx => by have := hx.2.2; unfold nodesO at h; rw [if_pos hx.1] at h; omega
  obtain ⟨R, hR⟩ : ∃ R, NearP W H T n w = R := ⟨_, rfl⟩
  rw [hR]
  have HR := Lib.hid hR
  clear hR
  have Q0 := below_new w (.cells #[.int .i64 W, .int .i64 H, .int .i64 T] 23)
  go_enter Try.func37, Try.ntmps37
  go_wp2_with fail
  refine (nodes_any _ _ _ _).mono ?_
  rintro e w1 ⟨rfl, hb1⟩
  have Q1 := below_then Q0 hb1
  clear hb1
  go_wp2_with fail
  rw [← HR.out]
  exact nearP_no hN Q1

set_option maxRecDepth 100000 in
set_option maxHeartbeats 4000000 in
theorem pnear_yes (W H T n : Int) (w : World) (hN : isN W H T n) :
    Calls Try.prog 37 #[.agg #[.int .i64 W, .int .i64 H, .int .i64 T], .int .i64 n] w (NearP W H T n w) := by
  have h0 : ¬ n < 0 := by have := hN.2.1; omega
  have h1 : ¬ nodesO W H T ≤ n := by have := hN.2.2; unfold nodesO; rw [if_pos hN.1]; omega
  obtain ⟨R, hR⟩ : ∃ R, NearP W H T n w = R := ⟨_, rfl⟩
  rw [hR]
  have HR := Lib.hid hR
  obtain ⟨L, hL⟩ : ∃ L, edgesL W H T = L := ⟨_, rfl⟩
  have HL := Lib.hid hL
  have hlen : L.length ≤ 6000000 := by have := rawL_len hN.1; rw [← hL]; unfold edgesL; rw [sortP_length]; exact this
  have HNN := Lib.hid hN
  have Q0 := below_new w (.cells #[.int .i64 W, .int .i64 H, .int .i64 T] 23)
  have B0 := Box3.new w (.int .i64 W) (.int .i64 H) (.int .i64 T) 23
  clear hR hL hN
  go_enter Try.func37, Try.ntmps37
  go_wp2_with fail
  refine (nodes_any _ _ _ _).mono ?_
  rintro e w1 ⟨rfl, hb1⟩
  have Q1 := below_then Q0 hb1
  have B1 := Box3.below B0 hb1
  obtain ⟨z1, k0, k1, k2⟩ := id B1
  clear hb1
  go_wp2_with fail
  refine (edges_yes _ _ _ _ HNN.out.1).mono ?_
  rintro e w2 ⟨v, rfl, hb2, hown⟩
  have Q2 := Lib.hid (below_then Q1 hb2)
  clear hb2 z1 k0 k1 k2 B0 B1 Q0 Q1 h0 h1
  rw [HL.out] at hown
  obtain ⟨AA, c, hv⟩ := own_slice hown
  subst hv
  have HO := Lib.hid hown
  clear hown
  obtain ⟨m, hm⟩ : ∃ m, L.length = m := ⟨_, rfl⟩
  have HM := Lib.hid hm
  rw [hm] at HO hlen ⊢
  clear hm
  go_wp2_with fail
  go_loopw [8, 29] (fun v i wx => ∃ k : Nat, k ≤ m ∧ i = .int .i64 (k : Int) ∧ Below w2.heap.size w2 wx ∧ wx.ownsRow w2.heap.size 3 1 v (nbrs n (L.take k)).length (ints (nbrs n (L.take k)))) (fun _ i _ => m - (intOf i).toNat)
  case atStart => exact ⟨0, by omega, rfl, Below.refl _ _, by simpa [nbrs, ints] using World.ownsRow_nil _ _ _ _⟩
  case round =>
    obtain ⟨k, hk, rfl, hb, ho⟩ := hrel
    obtain ⟨A1, c1, rfl⟩ := own_slice ho
    have HB := Lib.hid hb
    have HOW := Lib.hid ho
    have hsz : w2.heap.size ≤ wr.heap.size := hb.size
    have hnl := nbrs_len n (L.take k)
    rw [List.length_take] at hnl
    clear hb ho
    by_cases hlt : k < m
    · have hkl : k < L.length := by rw [HM.out]; exact hlt
      have htk := nbrs_take (n := n) hkl
      obtain ⟨g, rfl, hcl⟩ := own_pair (own_keep HO.out HB.out) (by omega)
      obtain ⟨d0, d1⟩ := hcl k hlt
      rw [getElem!_pos L k hkl] at d0 d1
      have HTK := Lib.hid htk
      clear hcl htk
      generalize L[k] = p at d0 d1 HTK
      obtain ⟨a, b⟩ := p
      simp only at d0 d1
      obtain ⟨M, hM⟩ : ∃ M, nbrs n (L.take k) = M := ⟨_, rfl⟩
      rw [hM] at HOW hnl HTK ⊢
      clear hM
      obtain ⟨len, hle⟩ : ∃ len, M.length = len := ⟨_, rfl⟩
      rw [hle] at HOW hnl ⊢
      have HLE := Lib.hid hle
      clear hle
      by_cases e1 : n = a
      · subst e1
        have hn1 : nbr n (n, b) = [b] := if_pos rfl
        have HN1 := Lib.hid hn1
        clear hn1
        go_wp2_with (at_builtin; refine wpList_app_int2 rfl (.tmp 38) (.tmp 41) rfl w2.heap.size A1 len c1 M rfl (HOW.out.alloc _) b (wr.heap.size + 1) rfl (by simp) (by omega) (by simp; omega) ?_)
        intro A5 c5 w5 hown5 hg5
        have B5 := Lib.hid (((HB.out.alloc hsz (.cells #[.int .i64 n, .int .i64 b] 53)).alloc (by simp; omega) (.cells #[.int .i64 b] 3)).grown hg5 (by simp; omega) (fun j hj => own_base HOW.out hj))
        have O5 := Lib.hid hown5
        clear hown5 hg5
        go_wp2_with fail
        go_roundw
        case rel =>
          refine ⟨k + 1, by omega, by go_num, B5.out, ?_⟩
          rw [HTK.out, HN1.out, List.length_append, HLE.out]
          exact O5.out
        case measure => simp [intOf]; omega
      · by_cases e2 : n = b
        · subst e2
          have hn1 : nbr n (a, n) = [a] := by unfold nbr; rw [if_neg (by omega), if_pos rfl]
          have HN1 := Lib.hid hn1
          clear hn1
          have hd : (n == a) = false := by simpa using e1
          go_wp2_with (at_builtin; refine wpList_app_int2 rfl (.tmp 47) (.tmp 50) rfl w2.heap.size A1 len c1 M rfl (HOW.out.alloc _) a (wr.heap.size + 1) rfl (by simp) (by omega) (by simp; omega) ?_)
          intro A5 c5 w5 hown5 hg5
          have B5 := Lib.hid (((HB.out.alloc hsz (.cells #[.int .i64 a, .int .i64 n] 53)).alloc (by simp; omega) (.cells #[.int .i64 a] 3)).grown hg5 (by simp; omega) (fun j hj => own_base HOW.out hj))
          have O5 := Lib.hid hown5
          clear hown5 hg5
          go_wp2_with fail
          go_roundw
          case rel =>
            refine ⟨k + 1, by omega, by go_num, B5.out, ?_⟩
            rw [HTK.out, HN1.out, List.length_append, HLE.out]
            exact O5.out
          case measure => simp [intOf]; omega
        · have hn1 : nbr n (a, b) = [] := by unfold nbr; rw [if_neg (by simp only; omega), if_neg (by simp only; omega)]
          have HN1 := Lib.hid hn1
          clear hn1
          have hd : (n == a) = false := by simpa using e1
          have hd2 : (n == b) = false := by simpa using e2
          go_wp2_with fail
          go_roundw
          case rel =>
            refine ⟨k + 1, by omega, by go_num, HB.out.alloc hsz _, ?_⟩
            rw [HTK.out, HN1.out, List.append_nil, HLE.out]
            exact HOW.out.alloc _
          case measure => simp [intOf]; omega
    · obtain rfl : k = m := by omega
      have hfull : L.take k = L := List.take_of_length_le (by rw [HM.out]; exact Nat.le_refl _)
      rw [hfull] at HOW hnl ⊢
      have hsrt : (nbrs n L).Pairwise (· < ·) := by have := nearL_sorted HNN.out.1 n; unfold nearL at this; rw [HL.out] at this; exact this
      have hnear : nearL W H T n = nbrs n L := by unfold nearL; rw [HL.out]
      have HS := Lib.hid hsrt
      have HNR := Lib.hid hnear
      clear hfull hsrt hnear
      obtain ⟨M, hM⟩ : ∃ M, nbrs n L = M := ⟨_, rfl⟩
      rw [hM] at HOW hnl HS HNR ⊢
      clear hM
      obtain ⟨len, hle⟩ : ∃ len, M.length = len := ⟨_, rfl⟩
      rw [hle] at HOW hnl ⊢
      have HLE := Lib.hid hle
      clear hle
      go_wp2_with fail
      refine (sort_ints _ w2.heap.size A1 len c1 M HS.out HOW.out hsz (by omega)).mono ?_
      rintro e w6 ⟨rfl, ho6, hb6⟩
      have O6 := Lib.hid ho6
      have B6 := Lib.hid (HB.out.trans hb6)
      clear ho6 hb6
      go_wp2_with fail
      rw [← HR.out]
      exact nearP_yes HNN.out HNR.out HLE.out (Q2.out.trans (B6.out.mono Q2.out.size)) (own_lower O6.out Q2.out.size)
theorem pnear_any (W H T n : Int) (w : World) :
    Calls Try.prog 37 #[.agg #[.int .i64 W, .int .i64 H, .int .i64 T], .int .i64 n] w (NearP W H T n w) := by
  by_cases h : isN W H T n
  · exact pnear_yes W H T n w h
  · by_cases h0 : n < 0
    · exact pnear_low W H T n w h0
    · refine pnear_high W H T n w h0 ?_
      unfold nodesO
      by_cases h1 : okA W H T
      · rw [if_pos h1]
        unfold isN at h
        simp only [h1, true_and] at h
        omega
      · rw [if_neg h1]; omega
end Go.Proofs.Ytfclfhgnfjmofaa
