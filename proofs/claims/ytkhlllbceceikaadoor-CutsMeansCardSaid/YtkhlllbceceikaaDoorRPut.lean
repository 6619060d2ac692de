/- filigreeref24.put. -/
import Derived.Test.YtkhlllbceceikaaDoorRDeep
import Derived.Test.YtkhlllbceceikaaDoorAigD
namespace Go.Proofs.YtkhlllbceceikaaDoor.Cut
set_option linter.unusedVariables false
set_option linter.unusedSimpArgs false
/-- where a set stands -/
def placeOf (d : List Int) (L : List (List Int)) (x : List Int) : Nat := (L.takeWhile fun y => aheadB d y x).length
/-- a set more, if it is not there -/
def put (d : List Int) (L : List (List Int)) (x : List Int) : List (List Int) :=
  if L[placeOf d L x]? = some x then L else L.take (placeOf d L x) ++ [x] ++ L.drop (placeOf d L x)
theorem takeWhile_len {α : Type} (p : α → Bool) : ∀ (L : List α) (k : Nat), (∀ (j : Nat) (h : j < L.length), j < k → p L[j] = true) → k ≤ L.length → (∀ h : k < L.length, p L[k] = false) → (L.takeWhile p).length = k
  | [], k, _, hk, _ => by simp at hk; simp [hk]
  | x :: L, 0, _, _, h => by have := h (by simp); simp at this; simp [this]
  | x :: L, k + 1, h1, h2, h3 => by
    have hx : p x = true := h1 0 (by simp) (by omega)
    rw [List.takeWhile_cons, if_pos hx, List.length_cons]
    rw [takeWhile_len p L k (fun j h hj => h1 (j + 1) (by simpa using h) (by omega)) (by simpa using h2) (fun h => h3 (by simpa using h))]
end Go.Proofs.YtkhlllbceceikaaDoor.Cut
namespace Go.Proofs.YtkhlllbceceikaaDoor
open Go.RowKit
set_option linter.unusedVariables false
set_option linter.unusedSimpArgs false
theorem Rd.pre {w : World} {size n c : Nat} {A : Option Addr} {xs : List Value} (h : Rd w size A n c xs) {k : Nat} (hk : k ≤ n) : Rd w size A k c (xs.take (k * size)) := by
  have hle := Nat.mul_le_mul_right size hk
  refine ⟨by rw [List.length_take, h.len]; omega, Nat.le_trans hk h.cap, h.nil, fun j u hj => ?_⟩
  have hj1 : j < k * size := by
    rcases Nat.lt_or_ge j (k * size) with hlt | hge
    · exact hlt
    · rw [List.getElem?_eq_none (by rw [List.length_take]; omega)] at hj; cases hj
  rw [List.getElem?_take_of_lt hj1] at hj
  exact h.read j u hj
theorem Rd.none0 (w : World) (size : Nat) (A : Option Addr) (c : Nat) (h : A = none → c = 0) : Rd w size A 0 c [] := ⟨by simp, by omega, h, fun j u hj => by simp at hj⟩
theorem Rd.suf {w : World} {n c : Nat} {A : Option Addr} {xs : List Value} (h : Rd w 1 A n c xs) {k : Nat} (hk : k ≤ n) {a : Addr} (hA : A = some a) : Rd w 1 (if c = k then some a else some (a.add k)) (n - k) (c - k) (xs.drop k) := by
  have hlen := h.len
  have hcap := h.cap
  refine ⟨by rw [List.length_drop]; omega, by omega, fun e => (by split at e <;> cases e), fun j u hj => ?_⟩
  rw [List.getElem?_drop] at hj
  have hlt : k + j < xs.length := by
    rcases Nat.lt_or_ge (k + j) xs.length with h1 | h1
    · exact h1
    · rw [List.getElem?_eq_none h1] at hj; cases hj
  obtain ⟨a', e, hb, hr⟩ := h.read _ u hj
  rw [hA] at e
  obtain rfl := Option.some.inj e
  rw [if_neg (by omega)]
  refine ⟨_, rfl, by rw [add_block]; exact hb, ?_⟩
  rw [← hr]
  congr 1
  unfold Addr.add
  by_cases h0 : k = 0 <;> by_cases h1 : j = 0 <;> simp [h0, h1, Nat.add_assoc]
theorem slice_info : (Tryd.prog.info? 24).map (fun i => (i.zero, i.size, i.bytes)) = some (some (.slice none 0 0), 1, 24) := by kernel_rfl
/-- what put tells -/
def PutSt (d : List Int) (L : List SL) (x : SL) (w : World) (A : Option Addr) (c : Nat) (ls : List SL) (w' : World) : Prop := Below w.heap.size w w' ∧ SLs w' A c ls ∧ con ls = Cut.put d (con L) x.2.2 ∧ ∀ l ∈ ls, l ∈ L ∨ l = x
def PutOut (d : List Int) (L : List SL) (x : SL) (w : World) (r : Ending) (w' : World) : Prop :=
  ∃ A c ls, r = .returned (.slice A (ls : List SL).length c) ∧ PutSt d L x w A c ls w'
theorem con_at {ls : List SL} {k : Nat} (h : k < ls.length) : (con ls)[k]'(by rw [con_length]; exact h) = ls[k].2.2 := by simp [con]
set_option maxRecDepth 100000 in
set_option maxHeartbeats 4000000 in
theorem put_any (D A : Option Addr) (cd c N : Nat) (d : List Int) (ls : List SL) (x : SL) (w : World) (hd : DepIn w D cd N d) (hls : SLs w A c ls) (hx : SLIn w x) (hN : ∀ l ∈ ls, NodesIn N l.2.2 ∧ l.2.2.length ≤ 6) (hxN : NodesIn N x.2.2 ∧ x.2.2.length ≤ 6) (hll : ls.length ≤ 10000) :
    Calls Tryd.prog 83 #[.slice D N cd, .slice A ls.length c, .slice x.1 x.2.2.length x.2.1] w (PutOut d ls x w) := by
  have HAH := Lib.hid (fun (W : World) (hB : Below w.heap.size w W) (k : Nat) (hk : k < ls.length) => ahead_any D ls[k].1 x.1 cd ls[k].2.1 x.2.1 N d ls[k].2.2 x.2.2 W (hd.later hB) ((hls.all _ (List.getElem_mem hk)).later hB) (hx.later hB) (hN _ (List.getElem_mem hk)).1 hxN.1 (by have := (hN _ (List.getElem_mem hk)).2; omega) (by have := hxN.2; omega))
  have HEQ := Lib.hid (fun (W : World) (hB : Below w.heap.size w W) (k : Nat) (hk : k < ls.length) => rints_any W ls[k].1 x.1 ls[k].2.1 x.2.1 ls[k].2.2 x.2.2 ((hls.all _ (List.getElem_mem hk)).later hB) (hx.later hB) (by have := (hN _ (List.getElem_mem hk)).2; omega))
  have HLS := Lib.hid hls
  have HX := Lib.hid hx
  obtain ⟨n, hn⟩ : ∃ n, ls.length = n := ⟨_, rfl⟩
  have HNN := Lib.hid hn
  obtain ⟨X, cX, xl⟩ := x
  simp only at HAH HEQ HX ⊢
  obtain ⟨xn, hxn⟩ : ∃ n, xl.length = n := ⟨_, rfl⟩
  have HXN := Lib.hid hxn
  have hnc : n ≤ c := by have := hls.row.cap; omega
  rw [hxn] at HAH HEQ ⊢
  rw [hn] at hll ⊢
  clear hd hls hx hN hxN hn hxn
  go_enter Tryd.func83, Tryd.ntmps83
  go_wp2_with fail
  go_loopw [7] (fun i wx => ∃ k : Nat, k ≤ n ∧ i = .int .i64 (k : Int) ∧ (∀ (j : Nat) (h : j < ls.length), j < k → Cut.aheadB d ls[j].2.2 xl = true) ∧ Below w.heap.size w wx) (fun i _ => n - (intOf i).toNat)
  case atStart => exact ⟨0, by omega, rfl, fun j h hj => absurd hj (by omega), Below.refl _ _⟩
  case round =>
    obtain ⟨k, hk, rfl, hah, hB⟩ := hrel
    have B1 := Lib.hid hB
    have HA := Lib.hid hah
    clear hB hah
    -- what follows the loop, at place k
    have hput : (∀ h : k < ls.length, Cut.aheadB d ls[k].2.2 xl = false) → Cut.placeOf d (con ls) xl = k := fun h => by
      refine Cut.takeWhile_len _ (con ls) k (fun j hj hjk => ?_) (by rw [con_length, HNN.out]; exact hk) (fun hj => ?_)
      · rw [con_length] at hj; rw [con_at hj]; exact HA.out j hj hjk
      · rw [con_length] at hj; rw [con_at hj]; exact h hj
    have HPUT := Lib.hid hput
    clear hput
    have hnew : (∀ h : k < ls.length, Cut.aheadB d ls[k].2.2 xl = false) → (∀ h : k < ls.length, ls[k].2.2 ≠ xl) → ∀ A' c' w', SLs w' A' c' (ls.take k ++ [((X, cX, xl) : SL)] ++ ls.drop k) → Below w.heap.size w w' → PutOut d ls (X, cX, xl) w (.returned (.slice A' (n + 1) c')) w' := fun h1 h2 A' c' w' hs hb => by
      refine ⟨A', c', _, ?_, hb, hs, ?_, fun l hl => ?_⟩
      · simp only [List.length_append, List.length_take, List.length_drop, HNN.out]
        congr 2
        simp; omega
      · show con _ = Cut.put d (con ls) xl
        unfold Cut.put
        rw [HPUT.out h1, if_neg]
        · simp [con]
        · intro he
          rcases Nat.lt_or_ge k ls.length with hlt | hge
          · rw [List.getElem?_eq_getElem (by rw [con_length]; exact hlt), con_at hlt] at he
            exact h2 hlt (Option.some.inj he)
          · rw [List.getElem?_eq_none (by rw [con_length]; exact hge)] at he; cases he
      · rcases List.mem_append.1 hl with hl | hl
        · rcases List.mem_append.1 hl with hl | hl
          · exact .inl (List.mem_of_mem_take hl)
          · exact .inr (by simpa using hl)
        · exact .inl (List.mem_of_mem_drop hl)
    have HNEW := Lib.hid hnew
    clear hnew
    by_cases hlt : k < n
    · have hkl : k < ls.length := by rw [HNN.out]; exact hlt
      obtain ⟨a, hA, hab, d0, hin⟩ := HLS.out.at_ hkl
      subst hA
      have d1 := (B1.out.cell (p := a.add k) (by rw [add_block]; exact hab)).trans d0
      have hlt' : (k : Int) < (n : Int) := by omega
      have HAK := Lib.hid (fun W hB => HAH.out W hB k hkl)
      have HEK := Lib.hid (fun W hB => HEQ.out W hB k hkl)
      have HNX := Lib.hid (show Cut.aheadB d ls[k].2.2 xl = true → ∀ (j : Nat) (h : j < ls.length), j < k + 1 → Cut.aheadB d ls[j].2.2 xl = true from fun h j hj hjk => by
        rcases Nat.lt_or_ge j k with h3 | h3
        · exact HA.out j hj h3
        · obtain rfl : j = k := by omega
          exact h)
      have HNO := Lib.hid (show Cut.aheadB d ls[k].2.2 xl = false → ∀ h : k < ls.length, Cut.aheadB d ls[k].2.2 xl = false from fun h _ => h)
      have HNQ := Lib.hid (show ls[k].2.2 ≠ xl → ∀ h : k < ls.length, ls[k].2.2 ≠ xl from fun h _ => h)
      have HYES := Lib.hid (show Cut.aheadB d ls[k].2.2 xl = false → ls[k].2.2 = xl → ∀ w', Below w.heap.size w w' → PutOut d ls (X, cX, xl) w (.returned (.slice (some a) n c)) w' from fun h1 h2 w' hb => by
        refine ⟨some a, c, ls, by rw [HNN.out], hb, HLS.out.later hb, ?_, fun l hl => .inl hl⟩
        show con ls = Cut.put d (con ls) xl
        unfold Cut.put
        rw [HPUT.out (fun _ => h1), List.getElem?_eq_getElem (by rw [con_length]; exact hkl), con_at hkl, h2, if_pos rfl])
      obtain ⟨lk, hlk⟩ : ∃ l, ls[k] = l := ⟨_, rfl⟩
      have HLK := Lib.hid hlk
      rw [hlk] at d1 HAK HEK HNX HNO HNQ HYES
      obtain ⟨l1, l2, l3⟩ := lk
      simp only [slv] at d1 HAK HEK HNX HNO HNQ HYES
      clear d0 hin hlk
      cases hah : Cut.aheadB d l3 xl with
      | true =>
        rw [hah] at HAK
        have HNX2 := Lib.hid (HNX.out hah)
        clear hah HYES HNO HEK
        go_wp2_with fail
        refine (HAK.out _ B1.out).mono ?_
        rintro e w2 ⟨rfl, hb2⟩
        have B2 := Lib.hid (below_then B1.out hb2)
        clear hb2 d1
        go_wp2_with fail
        go_roundw
        case rel => exact ⟨k + 1, by omega, by go_num, HNX2.out, B2.out⟩
        case measure => simp [intOf]; omega
      | false =>
        rw [hah] at HAK
        have HNO2 := Lib.hid (HNO.out hah)
        have HYES2 := Lib.hid (HYES.out hah)
        clear hah HNX HNO HYES
        go_wp2_with fail
        refine (HAK.out _ B1.out).mono ?_
        rintro e w2 ⟨rfl, hb2⟩
        have B2 := Lib.hid (below_then B1.out hb2)
        clear hb2
        have d2 := (B2.out.cell (p := a.add k) (by rw [add_block]; exact hab)).trans ((B1.out.cell (p := a.add k) (by rw [add_block]; exact hab)).symm.trans d1)
        clear d1
        go_wp2_with fail
        refine (HEK.out _ B2.out).mono ?_
        rintro e w3 ⟨rfl, hb3⟩
        have B3 := Lib.hid (below_then B2.out hb3)
        clear hb3 d2
        by_cases heq : l3 = xl
        · have HY := Lib.hid (HYES2.out heq)
          have hde : decide (l3 = xl) = true := decide_eq_true heq
          simp only [hde]
          clear heq hde
          go_wp2_with fail
          go_ret
          exact HY.out _ B3.out
        · have HN2 := Lib.hid (HNEW.out HNO2.out (HNQ.out heq))
          have hde : decide (l3 = xl) = false := decide_eq_false heq
          simp only [hde]
          clear heq hde
          have hkc : (k : Int) ≤ (c : Int) := by omega
          have hkn : (k : Int) ≤ (n : Int) := by omega
          have hck : ¬ c = k := by omega
          have R1 := Lib.hid ((HLS.out.row.later B3.out).pre (k := k) (by rw [HNN.out]; omega))
          go_upto_region 8 with (at_builtin; refine wpList_app_row rfl (.tmp 37) (.tmp 40) 96 24 rfl Tryd.underlying96 (.slice none 0 0) 1 24 slice_info rfl (by decide) (by decide) w.heap.size none 0 0 [] rfl (World.ownsRow_nil _ _ _ _) (some a) k c ((ls.map slv).take (k * 1)) rfl R1.out (fun u hu => slv_one ls u (List.mem_of_mem_take hu)) (by omega) B3.out.size ?_; intro A4 c4 w4 hown4 hg4)
          have B4 := Lib.hid (B3.out.grown hg4 B3.out.size (fun k hk => by cases hk))
          have O4 := Lib.hid hown4
          clear hown4 hg4 R1
          rw [Nat.zero_add] at O4
          have H4S := Lib.hid B4.out.size
          go_upto_region 9 with (at_builtin; refine wpList_app_row rfl (.tmp 42) (.tmp 44) 96 24 rfl Tryd.underlying96 (.slice none 0 0) 1 24 slice_info rfl (by decide) (by decide) w.heap.size A4 k c4 ([] ++ (ls.map slv).take (k * 1)) rfl (O4.out.alloc _) (some ⟨w4.heap.size, 0, none⟩) 1 1 [.slice X xn cX] rfl (rd_new w4 24 [.slice X xn cX]) (fun u hu => by rw [List.mem_singleton] at hu; subst hu; rfl) (by omega) (Nat.le_trans H4S.out (by simp)) ?_; intro A5 c5 w5 hown5 hg5)
          have B5 := Lib.hid ((below_then B4.out (below_new w4 _)).grown hg5 (Nat.le_trans H4S.out (by simp)) (fun k hk => own_base O4.out hk))
          have O5 := Lib.hid hown5
          clear hown5 hg5 O4
          have H5S := Lib.hid B5.out.size
          have R2 := Lib.hid (show Rd w5 1 (some (a.add k)) (n - k) (c - k) ((ls.map slv).drop k) from by have h := (HLS.out.row.later B5.out).suf (k := k) (by rw [HNN.out]; exact hk) rfl; rw [HNN.out, if_neg (by omega)] at h; exact h)
          go_wp2_with (at_builtin; refine wpList_app_row rfl (.tmp 46) (.tmp 49) 96 24 rfl Tryd.underlying96 (.slice none 0 0) 1 24 slice_info rfl (by decide) (by decide) w.heap.size A5 (k + 1) c5 ([] ++ (ls.map slv).take (k * 1) ++ [.slice X xn cX]) rfl O5.out (some (a.add k)) (n - k) (c - k) ((ls.map slv).drop k) rfl R2.out (fun u hu => slv_one ls u (List.mem_of_mem_drop hu)) (by omega) H5S.out ?_; intro A6 c6 w6 hown6 hg6)
          have B6 := Lib.hid (B5.out.grown hg6 H5S.out (fun k hk => own_base O5.out hk))
          have hrow := Rd.of_own hown6
          clear hown6 hg6
          go_ret
          have HIN := HN2.out A6 c6 w6 ⟨?hrow, fun l hl => ?hall⟩ B6.out
          · have hsum : k + 1 + (n - k) = n + 1 := by omega
            first | exact HIN | (rw [hsum]; exact HIN)
          case hrow =>
            have hl9 : (ls.take k ++ [((X, cX, xl) : SL)] ++ ls.drop k).length = k + 1 + (n - k) := by simp only [List.length_append, List.length_take, List.length_drop, HNN.out]; first | omega | (simp; done) | (simp; omega)
            rw [hl9]
            simpa [slv, HXN.out, List.map_take, List.map_drop] using hrow
          case hall =>
            rcases List.mem_append.1 hl with hl | hl
            · rcases List.mem_append.1 hl with hl | hl
              · exact (HLS.out.all l (List.mem_of_mem_take hl)).later B6.out
              · rw [List.mem_singleton] at hl
                subst hl
                exact SLIn.later HX.out B6.out
            · exact (HLS.out.all l (List.mem_of_mem_drop hl)).later B6.out
    · obtain rfl : k = n := by omega
      have HN2 := Lib.hid (HNEW.out (fun h => absurd h (by rw [HNN.out]; omega)) (fun h => absurd h (by rw [HNN.out]; omega)))
      have hlt' : ¬ (k : Int) < (k : Int) := by omega
      have hdr : ls.map slv = (ls.map slv) := rfl
      have HDE := Lib.hid (show (ls.map slv).drop k = [] from List.drop_eq_nil_of_le (by rw [List.length_map, HNN.out]; exact Nat.le_refl _))
      cases A with
      | none =>
        have hc0 : c = 0 := HLS.out.row.nil rfl
        obtain rfl : k = 0 := by omega
        subst hc0
        have hkc : (0 : Int) ≤ (0 : Int) := by omega
        have hkk : True := trivial
        have R1 := Lib.hid ((HLS.out.row.later B1.out).pre (k := 0) (by rw [HNN.out]; omega))
        go_upto_region 8 with (at_builtin; refine wpList_app_row rfl (.tmp 37) (.tmp 40) 96 24 rfl Tryd.underlying96 (.slice none 0 0) 1 24 slice_info rfl (by decide) (by decide) w.heap.size none 0 0 [] rfl (World.ownsRow_nil _ _ _ _) none 0 0 ((ls.map slv).take (0 * 1)) rfl R1.out (fun u hu => slv_one ls u (List.mem_of_mem_take hu)) (by omega) B1.out.size ?_; intro A4 c4 w4 hown4 hg4)
        have B4 := Lib.hid (B1.out.grown hg4 B1.out.size (fun k hk => by cases hk))
        have O4 := Lib.hid hown4
        clear hown4 hg4 R1
        rw [Nat.zero_add] at O4
        have H4S := Lib.hid B4.out.size
        go_upto_region 9 with (at_builtin; refine wpList_app_row rfl (.tmp 42) (.tmp 44) 96 24 rfl Tryd.underlying96 (.slice none 0 0) 1 24 slice_info rfl (by decide) (by decide) w.heap.size A4 0 c4 ([] ++ (ls.map slv).take (0 * 1)) rfl (O4.out.alloc _) (some ⟨w4.heap.size, 0, none⟩) 1 1 [.slice X xn cX] rfl (rd_new w4 24 [.slice X xn cX]) (fun u hu => by rw [List.mem_singleton] at hu; subst hu; rfl) (by omega) (Nat.le_trans H4S.out (by simp)) ?_; intro A5 c5 w5 hown5 hg5)
        have B5 := Lib.hid ((below_then B4.out (below_new w4 _)).grown hg5 (Nat.le_trans H4S.out (by simp)) (fun k hk => own_base O4.out hk))
        have O5 := Lib.hid hown5
        clear hown5 hg5 O4
        have H5S := Lib.hid B5.out.size
        have R2 := Lib.hid (show Rd w5 1 none 0 0 ((ls.map slv).drop 0) from by rw [HDE.out]; exact Rd.none0 _ _ _ _ (fun _ => rfl))
        go_wp2_with (at_builtin; refine wpList_app_row rfl (.tmp 46) (.tmp 49) 96 24 rfl Tryd.underlying96 (.slice none 0 0) 1 24 slice_info rfl (by decide) (by decide) w.heap.size A5 (0 + 1) c5 ([] ++ (ls.map slv).take (0 * 1) ++ [.slice X xn cX]) rfl O5.out none 0 0 ((ls.map slv).drop 0) rfl R2.out (fun u hu => slv_one ls u (List.mem_of_mem_drop hu)) (by omega) H5S.out ?_; intro A6 c6 w6 hown6 hg6)
        have B6 := Lib.hid (B5.out.grown hg6 H5S.out (fun k hk => own_base O5.out hk))
        have hrow := Rd.of_own hown6
        clear hown6 hg6
        go_ret
        have HIN := HN2.out A6 c6 w6 ⟨?hrow, fun l hl => ?hall⟩ B6.out
        · have hsum : 0 + 1 + 0 = 0 + 1 := by omega
          first | exact HIN | (rw [hsum]; exact HIN)
        case hrow =>
          have hl9 : (ls.take 0 ++ [((X, cX, xl) : SL)] ++ ls.drop 0).length = 0 + 1 + 0 := by simp only [List.length_append, List.length_take, List.length_drop, HNN.out]; first | omega | (simp; done) | (simp; omega)
          rw [hl9]
          simpa [slv, HXN.out, List.map_take, List.map_drop] using hrow
        case hall =>
          rcases List.mem_append.1 hl with hl | hl
          · rcases List.mem_append.1 hl with hl | hl
            · exact (HLS.out.all l (List.mem_of_mem_take hl)).later B6.out
            · rw [List.mem_singleton] at hl
              subst hl
              exact SLIn.later HX.out B6.out
          · exact (HLS.out.all l (List.mem_of_mem_drop hl)).later B6.out
      | some a =>
        by_cases hck : c = k
        · subst hck
          have hkc : (c : Int) ≤ (c : Int) := by omega
          have hkn : (c : Int) ≤ (c : Int) := by omega
          have R1 := Lib.hid ((HLS.out.row.later B1.out).pre (k := c) (by rw [HNN.out]; omega))
          go_upto_region 8 with (at_builtin; refine wpList_app_row rfl (.tmp 37) (.tmp 40) 96 24 rfl Tryd.underlying96 (.slice none 0 0) 1 24 slice_info rfl (by decide) (by decide) w.heap.size none 0 0 [] rfl (World.ownsRow_nil _ _ _ _) (some a) c c ((ls.map slv).take (c * 1)) rfl R1.out (fun u hu => slv_one ls u (List.mem_of_mem_take hu)) (by omega) B1.out.size ?_; intro A4 c4 w4 hown4 hg4)
          have B4 := Lib.hid (B1.out.grown hg4 B1.out.size (fun k hk => by cases hk))
          have O4 := Lib.hid hown4
          clear hown4 hg4 R1
          rw [Nat.zero_add] at O4
          have H4S := Lib.hid B4.out.size
          go_upto_region 9 with (at_builtin; refine wpList_app_row rfl (.tmp 42) (.tmp 44) 96 24 rfl Tryd.underlying96 (.slice none 0 0) 1 24 slice_info rfl (by decide) (by decide) w.heap.size A4 c c4 ([] ++ (ls.map slv).take (c * 1)) rfl (O4.out.alloc _) (some ⟨w4.heap.size, 0, none⟩) 1 1 [.slice X xn cX] rfl (rd_new w4 24 [.slice X xn cX]) (fun u hu => by rw [List.mem_singleton] at hu; subst hu; rfl) (by omega) (Nat.le_trans H4S.out (by simp)) ?_; intro A5 c5 w5 hown5 hg5)
          have B5 := Lib.hid ((below_then B4.out (below_new w4 _)).grown hg5 (Nat.le_trans H4S.out (by simp)) (fun k hk => own_base O4.out hk))
          have O5 := Lib.hid hown5
          clear hown5 hg5 O4
          have H5S := Lib.hid B5.out.size
          have R2 := Lib.hid (show Rd w5 1 (some a) 0 0 ((ls.map slv).drop c) from by rw [HDE.out]; exact Rd.none0 _ _ _ _ (fun e => by cases e))
          go_wp2_with (at_builtin; refine wpList_app_row rfl (.tmp 46) (.tmp 49) 96 24 rfl Tryd.underlying96 (.slice none 0 0) 1 24 slice_info rfl (by decide) (by decide) w.heap.size A5 (c + 1) c5 ([] ++ (ls.map slv).take (c * 1) ++ [.slice X xn cX]) rfl O5.out (some a) 0 0 ((ls.map slv).drop c) rfl R2.out (fun u hu => slv_one ls u (List.mem_of_mem_drop hu)) (by omega) H5S.out ?_; intro A6 c6 w6 hown6 hg6)
          have B6 := Lib.hid (B5.out.grown hg6 H5S.out (fun k hk => own_base O5.out hk))
          have hrow := Rd.of_own hown6
          clear hown6 hg6
          go_ret
          have HIN := HN2.out A6 c6 w6 ⟨?hrow, fun l hl => ?hall⟩ B6.out
          · have hsum : c + 1 + 0 = c + 1 := by omega
            first | exact HIN | (rw [hsum]; exact HIN)
          case hrow =>
            have hl9 : (ls.take c ++ [((X, cX, xl) : SL)] ++ ls.drop c).length = c + 1 + 0 := by simp only [List.length_append, List.length_take, List.length_drop, HNN.out]; first | omega | (simp; done) | (simp; omega)
            rw [hl9]
            simpa [slv, HXN.out, List.map_take, List.map_drop] using hrow
          case hall =>
            rcases List.mem_append.1 hl with hl | hl
            · rcases List.mem_append.1 hl with hl | hl
              · exact (HLS.out.all l (List.mem_of_mem_take hl)).later B6.out
              · rw [List.mem_singleton] at hl
                subst hl
                exact SLIn.later HX.out B6.out
            · exact (HLS.out.all l (List.mem_of_mem_drop hl)).later B6.out
        · have hkc : (k : Int) ≤ (c : Int) := by omega
          have hkn : (k : Int) ≤ (k : Int) := by omega
          have R1 := Lib.hid ((HLS.out.row.later B1.out).pre (k := k) (by rw [HNN.out]; omega))
          go_upto_region 8 with (at_builtin; refine wpList_app_row rfl (.tmp 37) (.tmp 40) 96 24 rfl Tryd.underlying96 (.slice none 0 0) 1 24 slice_info rfl (by decide) (by decide) w.heap.size none 0 0 [] rfl (World.ownsRow_nil _ _ _ _) (some a) k c ((ls.map slv).take (k * 1)) rfl R1.out (fun u hu => slv_one ls u (List.mem_of_mem_take hu)) (by omega) B1.out.size ?_; intro A4 c4 w4 hown4 hg4)
          have B4 := Lib.hid (B1.out.grown hg4 B1.out.size (fun k hk => by cases hk))
          have O4 := Lib.hid hown4
          clear hown4 hg4 R1
          rw [Nat.zero_add] at O4
          have H4S := Lib.hid B4.out.size
          go_upto_region 9 with (at_builtin; refine wpList_app_row rfl (.tmp 42) (.tmp 44) 96 24 rfl Tryd.underlying96 (.slice none 0 0) 1 24 slice_info rfl (by decide) (by decide) w.heap.size A4 k c4 ([] ++ (ls.map slv).take (k * 1)) rfl (O4.out.alloc _) (some ⟨w4.heap.size, 0, none⟩) 1 1 [.slice X xn cX] rfl (rd_new w4 24 [.slice X xn cX]) (fun u hu => by rw [List.mem_singleton] at hu; subst hu; rfl) (by omega) (Nat.le_trans H4S.out (by simp)) ?_; intro A5 c5 w5 hown5 hg5)
          have B5 := Lib.hid ((below_then B4.out (below_new w4 _)).grown hg5 (Nat.le_trans H4S.out (by simp)) (fun k hk => own_base O4.out hk))
          have O5 := Lib.hid hown5
          clear hown5 hg5 O4
          have H5S := Lib.hid B5.out.size
          have R2 := Lib.hid (show Rd w5 1 (some (a.add k)) 0 (c - k) ((ls.map slv).drop k) from by rw [HDE.out]; exact Rd.none0 _ _ _ _ (fun e => by cases e))
          go_wp2_with (at_builtin; refine wpList_app_row rfl (.tmp 46) (.tmp 49) 96 24 rfl Tryd.underlying96 (.slice none 0 0) 1 24 slice_info rfl (by decide) (by decide) w.heap.size A5 (k + 1) c5 ([] ++ (ls.map slv).take (k * 1) ++ [.slice X xn cX]) rfl O5.out (some (a.add k)) 0 (c - k) ((ls.map slv).drop k) rfl R2.out (fun u hu => slv_one ls u (List.mem_of_mem_drop hu)) (by omega) H5S.out ?_; intro A6 c6 w6 hown6 hg6)
          have B6 := Lib.hid (B5.out.grown hg6 H5S.out (fun k hk => own_base O5.out hk))
          have hrow := Rd.of_own hown6
          clear hown6 hg6
          go_ret
          have HIN := HN2.out A6 c6 w6 ⟨?hrow, fun l hl => ?hall⟩ B6.out
          · have hsum : k + 1 + 0 = k + 1 := by omega
            first | exact HIN | (rw [hsum]; exact HIN)
          case hrow =>
            have hl9 : (ls.take k ++ [((X, cX, xl) : SL)] ++ ls.drop k).length = k + 1 + 0 := by simp only [List.length_append, List.length_take, List.length_drop, HNN.out]; first | omega | (simp; done) | (simp; omega)
            rw [hl9]
            simpa [slv, HXN.out, List.map_take, List.map_drop] using hrow
          case hall =>
            rcases List.mem_append.1 hl with hl | hl
            · rcases List.mem_append.1 hl with hl | hl
              · exact (HLS.out.all l (List.mem_of_mem_take hl)).later B6.out
              · rw [List.mem_singleton] at hl
                subst hl
                exact SLIn.later HX.out B6.out
            · exact (HLS.out.all l (List.mem_of_mem_drop hl)).later B6.out
end Go.Proofs.YtkhlllbceceikaaDoor
