/- cuts.sets: the sets of a gate, by their ranks. -/
import Derived.Test.YtkhlllbceceikaaDoorCDep
namespace Go.Proofs.YtkhlllbceceikaaDoor.Cut
set_option linter.unusedVariables false
set_option linter.unusedSimpArgs false
theorem r8_rank (d l : List Int) : r8 (rankOf d l) = rankOf d l := rfl
/-- what is made of so many pairs, one by one -/
def msTo (a b : List (List Int)) (k : Int) (n : Nat) : List (List Int) := ((pairs a b).take n).filterMap fun p => merge p.1 p.2 k
theorem msTo_next {a b : List (List Int)} {k : Int} {i j : Nat} (hi : i < a.length) (hj : j < b.length) : msTo a b k (i * b.length + j + 1) = match merge a[i] b[j] k with
    | none => msTo a b k (i * b.length + j)
    | some x => msTo a b k (i * b.length + j) ++ [x] := by
  unfold msTo
  have h := pairs_at a b i j hi hj
  obtain ⟨hlt, he⟩ := List.getElem?_eq_some_iff.1 h
  rw [List.take_succ_eq_append_getElem hlt, List.filterMap_append, he]
  cases hm : merge a[i] b[j] k <;> simp [hm]
theorem msTo_all (a b : List (List Int)) (k : Int) (y : List Int) : y ∈ msTo a b k (a.length * b.length) ↔ ∃ p ∈ pairs a b, merge p.1 p.2 k = some y := by
  unfold msTo
  rw [← pairs_len, List.take_length, List.mem_filterMap]
end Go.Proofs.YtkhlllbceceikaaDoor.Cut
namespace Go.Proofs.YtkhlllbceceikaaDoor
open Go.RowKit Go.Shelf Go.Lib Go.Sort
set_option linter.unusedVariables false
set_option linter.unusedSimpArgs false
/-- ranked sets as they should be -/
def RkOk (d : List Int) (N : Nat) (rs : List RK) : Prop := ∀ x ∈ rs, x.1 = Cut.rankOf d x.2.2.2 ∧ NodesIn N x.2.2.2 ∧ x.2.2.2.length ≤ 6
def rlv (rs : List RK) : List (List Int) := rs.map fun x => x.2.2.2
theorem kof_ok {d : List Int} {N : Nat} {rs : List RK} (h : RkOk d N rs) {x : RK} (hx : x ∈ rs) : kof x = Cut.rankOf d x.2.2.2 := by
  unfold kof; rw [(h x hx).1, Cut.r8_rank]
/-- put in order, those alike made one: the sets of a gate -/
theorem cpt_gate {d : List Int} {N : Nat} {k : Int} {a b : List (List Int)} {rs L : List RK} (hok : RkOk d N rs) (hrs : rlv rs = Cut.msTo a b k (a.length * b.length)) (hmem : ∀ x, x ∈ L ↔ x ∈ rs)
    (hs : ∀ i j, i < j → j < L.length → ltOf cmpR (L.getD j default) (L.getD i default) = false) : rlv (cpt kof L) = Cut.gateAll d a b k := by
  have hokL : RkOk d N L := fun x hx => hok x ((hmem x).1 hx)
  have hsub : ∀ x ∈ cpt kof L, x ∈ L := fun x hx => by
    have := cptTo_mem (f := kof) (L := L) L.length (Nat.le_refl _) x hx
    rwa [List.take_length] at this
  have hf := Cut.fold_sorted d k (Cut.pairs a b) [] (by simp) (by simp)
  refine Cut.sorted_uniq (Cut.Lt d) (Cut.Lt.irrefl d) (fun x y z => Cut.Lt.trans) ?_ hf.1 (fun y => ?_)
  · have hr := cptTo_rise (f := kof) (L := L) (fun u v => Cut.cmpL u v < 0) (fun u v z h1 h2 => (Cut.cmpL_trans u v z (Int.le_of_lt h1) (Int.le_of_lt h2)).2 (.inl h1)) (fun i j hij hj => by
      have h := hs i j hij hj
      unfold ltOf cmpR at h
      have h1 := of_decide_eq_false h
      have s1 := Cut.cmpL_swap (kof (L.getD i default)) (kof (L.getD j default))
      have s2 := Cut.cmpL_eq (kof (L.getD i default)) (kof (L.getD j default))
      by_cases h0 : Cut.cmpL (kof (L.getD i default)) (kof (L.getD j default)) = 0
      · exact .inr (s2.1 h0)
      · exact .inl (by omega)) L.length (Nat.le_refl _)
    unfold rlv
    rw [List.pairwise_map]
    refine List.Pairwise.imp_of_mem (fun {x y} hx hy h => ?_) hr
    unfold Cut.Lt
    rw [← kof_ok hokL (hsub x hx), ← kof_ok hokL (hsub y hy)]
    exact h
  · show y ∈ rlv (cpt kof L) ↔ y ∈ (Cut.pairs a b).foldl (Cut.putM d k) []
    rw [hf.2 y, ← Cut.msTo_all, ← hrs]
    constructor
    · intro h
      obtain ⟨x, hx, rfl⟩ := List.mem_map.1 h
      exact .inr (List.mem_map.2 ⟨x, (hmem x).1 (hsub x hx), rfl⟩)
    · rintro (h | h)
      · cases h
      · obtain ⟨x, hx, rfl⟩ := List.mem_map.1 h
        have hxL := (hmem x).2 hx
        obtain ⟨z, hz, e⟩ := cptTo_key (f := kof) (L := L) L.length (Nat.le_refl _) x (by rwa [List.take_length])
        refine List.mem_map.2 ⟨z, hz, ?_⟩
        have hzL := hsub z hz
        rw [kof_ok hokL hzL, kof_ok hokL hxL] at e
        exact Cut.rank_inj d (hokL z hzL).2.2 (hokL x hxL).2.2 e
theorem OwnL.sl {base : Nat} {w : World} {l : SL} (h : OwnL base w l) : SLIn w l := Rd.of_own h
theorem own_types {w : World} {b b' s s' n n' g : Nat} {e e' : TypeId} {v v' : Value} {xs xs' : List Value} (h : w.ownsRow b e s v n xs) (h' : w.ownsRow b' e' s' v' n' xs') (hne : e ≠ e') (hg : v.ownBlock = some g) : v'.ownBlock ≠ some g := by
  intro hg'
  obtain ⟨cs, hb⟩ := own_int h hg
  obtain ⟨cs', hb'⟩ := own_int h' hg'
  exact Blk.other hb hb' hne rfl
theorem OwnL.grown {base : Nat} {w w' : World} {l : SL} (h : OwnL base w l) {b s n : Nat} {v : Value} {xs : List Value} (ho : w.ownsRow b 105 s v n xs) (hg : w.grownBy w' v.ownBlock) : OwnL base w' l := by
  refine h.kept hg ?_
  cases hl : (slv l).ownBlock with
  | none => exact .inl rfl
  | some gl => exact .inr (fun e => own_types ho h (by decide) e.symm hl)
theorem OwnL.chg {base : Nat} {w w' : World} {l : SL} (h : OwnL base w l) {b s n c k : Nat} {A : Option Addr} {xs : List Value} (ho : w.ownsRow b 105 s (.slice A k c) n xs) (hg : Chg w w' fun k => some k = blkOf A) : OwnL base w' l := by
  refine hg.own h (fun g hgl he => ?_)
  have := own_types ho h (by decide) (g := g) (by rw [own_blk]; exact he.symm)
  exact this hgl
theorem size_int1 : (Tryd.prog.info? 3).map (·.size) = some 1 := by kernel_rfl
theorem six_splice (dz n : Int) : ∀ z : List Int, z.length ≤ 6 → splice [.int .i64 dz, .int .i64 n, .int .i64 0, .int .i64 0, .int .i64 0, .int .i64 0, .int .i64 0, .int .i64 0] 2 (ints z) = ints (dz :: n :: (List.range 6).map fun i => z.getD i 0)
  | [], _ => rfl
  | [_], _ => rfl
  | [_, _], _ => rfl
  | [_, _, _], _ => rfl
  | [_, _, _, _], _ => rfl
  | [_, _, _, _, _], _ => rfl
  | [_, _, _, _, _, _], _ => rfl
  | _ :: _ :: _ :: _ :: _ :: _ :: _ :: _, h => absurd h (by simp)
theorem rd_newK (w : World) (t : TypeId) (cs : List Value) (sz n : Nat) (h : cs.length = n * sz) : Rd (w.alloc (.cells cs.toArray t)) sz (some ⟨w.heap.size, 0, none⟩) n n cs := by
  refine ⟨h, Nat.le_refl _, fun h => (by cases h), fun j u hj => ?_⟩
  exact (rd_new w t cs).read j u hj
theorem cells9_one (r0 r1 r2 r3 r4 r5 r6 r7 : Int) (A : Option Addr) (n c : Nat) : ∀ u ∈ [Value.int .i64 r0, .int .i64 r1, .int .i64 r2, .int .i64 r3, .int .i64 r4, .int .i64 r5, .int .i64 r6, .int .i64 r7, .slice A n c], u.oneCell' = true := by
  intro u hu
  simp at hu
  rcases hu with rfl | rfl | rfl | rfl | rfl | rfl | rfl | rfl | rfl <;> rfl
def SetsOut (d : List Int) (N : Nat) (L : List (List Int)) (w : World) (r : Ending) (w' : World) : Prop :=
  ∃ A c rs, r = .returned (.slice A (rs : List RK).length c) ∧ Below w.heap.size w w' ∧ w'.ownsRow w.heap.size 105 9 (.slice A rs.length c) rs.length (rkC rs) ∧ (∀ x ∈ rs, OwnL w.heap.size w' x.2) ∧ RkOk d N rs ∧ rlv rs = L
theorem cutZero (w : World) : (zeroValue 34).run Tryd.prog w = .ok (.agg #[.slice none 0 0, .int .u64 0]) w := by kernel_rfl
theorem ranked_info : (Tryd.prog.info? 105).map (fun i => (i.zero, i.size, i.bytes)) = some (some (.agg #[.int .i64 0, .int .i64 0, .int .i64 0, .int .i64 0, .int .i64 0, .int .i64 0, .int .i64 0, .int .i64 0, .slice none 0 0]), 9, 88) := by kernel_rfl
set_option maxRecDepth 100000 in
set_option maxHeartbeats 8000000 in
theorem csets_any (D A B : Option Addr) (cd ca cb N : Nat) (d : List Int) (xs ys : List CT) (k : Int) (w : World) (hd : DepIn w D cd N d) (ha : CutsIn w A ca xs) (hb : CutsIn w B cb ys) (hla : LvIn N xs) (hlb : LvIn N ys) (hna : xs.length ≤ 50) (hnb : ys.length ≤ 50) (hne : Cut.msTo (lvs xs) (lvs ys) k (xs.length * ys.length) ≠ []) :
    Calls Tryd.prog 59 #[.slice D N cd, .slice A xs.length ca, .slice B ys.length cb, .int .i64 k] w (SetsOut d N (Cut.gate d (lvs xs) (lvs ys) k) w) := by
  have HMG := Lib.hid (fun (W : World) (hB : Below w.heap.size w W) (i j : Nat) (hi : i < xs.length) (hj : j < ys.length) => cmerge_any xs[i].1.1 ys[j].1.1 xs[i].1.2.1 ys[j].1.2.1 xs[i].1.2.2 ys[j].1.2.2 k W (Rd.later (ha.all _ (List.getElem_mem hi)) hB) (Rd.later (hb.all _ (List.getElem_mem hj)) hB) (by have := (hla _ (List.getElem_mem hi)).2; omega) (by have := (hlb _ (List.getElem_mem hj)).2; omega))
  have HDE := Lib.hid (fun (W : World) (hB : Below w.heap.size w W) (X : Option Addr) (cx : Nat) (l : List Int) (h1 : Rd W 1 X l.length cx (ints l)) (h2 : NodesIn N l) (h3 : l.length ≤ 6) => cdepth_any D X cd cx N d l W (hd.later hB) h1 h2 (by omega))
  have HA := Lib.hid ha
  have HB := Lib.hid hb
  have HLA := Lib.hid hla
  have HLB := Lib.hid hlb
  have HDB := Lib.hid (fun l => Cut.deep_bound (d := d) (l := l) (M := 1000000) (by omega) hd.small)
  obtain ⟨n, hn⟩ : ∃ n, xs.length = n := ⟨_, rfl⟩
  obtain ⟨m, hm⟩ : ∃ n, ys.length = n := ⟨_, rfl⟩
  have HN := Lib.hid hn
  have HM := Lib.hid hm
  rw [hn, hm] at hne
  have HNE := Lib.hid hne
  clear hne
  rw [hn] at hna ⊢
  rw [hm] at hnb ⊢
  have hGN : ∀ (i j : Nat) (hi : i < xs.length) (hj : j < ys.length), Cut.msTo (lvs xs) (lvs ys) k (i * m + j + 1) = match Cut.merge xs[i].1.2.2 ys[j].1.2.2 k with
    | none => Cut.msTo (lvs xs) (lvs ys) k (i * m + j)
    | some x => Cut.msTo (lvs xs) (lvs ys) k (i * m + j) ++ [x] := fun i j hi hj => by
    have h := Cut.msTo_next (k := k) (a := lvs xs) (b := lvs ys) (i := i) (j := j) (by rw [lvs_length]; exact hi) (by rw [lvs_length]; exact hj)
    simp only [lvs_length, hm, lvs_at hi, lvs_at hj] at h
    exact h
  have HGN := Lib.hid hGN
  have HALL := Lib.hid (fun (rs L : List RK) (hok : RkOk d N rs) (hrs : rlv rs = Cut.msTo (lvs xs) (lvs ys) k (n * m)) hmem hs => cpt_gate (d := d) (N := N) (k := k) (a := lvs xs) (b := lvs ys) (rs := rs) (L := L) hok (by rw [lvs_length, lvs_length, hn, hm]; exact hrs) hmem hs)
  clear hd ha hb hla hlb hn hm hGN
  go_enter Tryd.func59, Tryd.ntmps59
  go_wp2_with fail
  go_loopw [9, 19] (fun v9 v19 wx => ∃ (i : Nat) (AL : Option Addr) (cL : Nat) (rs : List RK), i ≤ n ∧ v19 = .int .i64 (i : Int) ∧ v9 = .slice AL rs.length cL ∧ rlv rs = Cut.msTo (lvs xs) (lvs ys) k (i * m) ∧ rs.length ≤ i * m ∧ wx.ownsRow w.heap.size 105 9 (.slice AL rs.length cL) rs.length (rkC rs) ∧ (∀ x ∈ rs, OwnL w.heap.size wx x.2) ∧ RkOk d N rs ∧ Below w.heap.size w wx) (fun _ v19 _ => n - (intOf v19).toNat)
  case atStart => exact ⟨0, none, 0, [], by omega, rfl, rfl, by rw [Nat.zero_mul]; rfl, by simp, World.ownsRow_nil _ _ _ _, fun l hl => (by cases hl), fun l hl => (by cases hl), Below.refl _ _⟩
  case round =>
    obtain ⟨i, AL, cL, rs, hi, rfl, rfl, hcon, hlen, hown, hSL, hok, hB⟩ := hrel
    have HCON := Lib.hid hcon
    have HO := Lib.hid hown
    have HS := Lib.hid hSL
    have HOK := Lib.hid hok
    have B1 := Lib.hid hB
    clear hcon hSL hown hok hB
    by_cases hin : i < n
    case neg =>
      obtain rfl : i = n := by omega
      have HALL2 := Lib.hid (fun L hmem hs => HALL.out rs L HOK.out HCON.out hmem hs)
      have hpos : 0 < rs.length := by
        rcases Nat.eq_zero_or_pos rs.length with h0 | h0
        · have hz : rs = [] := List.eq_nil_of_length_eq_zero h0
          exact absurd (by rw [← HCON.out, hz]; rfl) HNE.out
        · exact h0
      have hlen2 : rs.length ≤ 2500 := Nat.le_trans hlen (Nat.le_trans (Nat.mul_le_mul hna hnb) (by omega))
      go_wp2_with fail
      refine (sortR_any wr w.heap.size AL rs.length cL rs HO.out B1.out.size (by omega) hpos).mono ?_
      rintro e w2 ⟨rfl, L, hown2, hmem, hll, hs2, hchg2⟩
      have O2 := Lib.hid hown2
      have HME := Lib.hid hmem
      have HRES := Lib.hid (HALL2.out L hmem hs2)
      have B2 := Lib.hid (hchg2.below B1.out B1.out.size (fun q hq => own_base HO.out (by rw [own_blk]; exact hq.symm)))
      have S2 := Lib.hid (show ∀ x ∈ rs, OwnL w.heap.size w2 x.2 from fun x hx => (HS.out x hx).chg HO.out hchg2)
      clear hown2 hmem hs2 hchg2
      go_wp2_with fail
      have hco := compactF_any w2 w.heap.size AL rs.length cL L O2.out B2.out.size (by omega)
      unfold CptROut at hco
      refine hco.mono ?_
      rintro e w3 ⟨rfl, hown3, hchg3⟩
      have B3 := Lib.hid (hchg3.below B2.out B2.out.size (fun q hq => own_base O2.out (by rw [own_blk]; exact hq.symm)))
      have S3 := Lib.hid (show ∀ x ∈ rs, OwnL w.heap.size w3 x.2 from fun x hx => (S2.out x hx).chg O2.out hchg3)
      have R3 := Lib.hid hown3
      have hsub : ∀ x ∈ cpt kof L, x ∈ rs := fun x hx => by
        have h := cptTo_mem (f := kof) (L := L) L.length (Nat.le_refl _) x hx
        rw [List.take_length] at h
        exact (HME.out x).1 h
      have HSUB := Lib.hid hsub
      clear hown3 hchg3 hco hsub
      obtain ⟨R, hR⟩ : ∃ R, cpt kof L = R := ⟨_, rfl⟩
      rw [hR] at R3 HSUB HRES ⊢
      have hcc := (Rd.of_own R3.out).cap
      have hln : (min (R.length : Int) 8).toNat = (R.take 8).length := by rw [List.length_take]; omega
      have HLN := Lib.hid hln
      clear hln hR
      go_wp2_with fail
      go_ret
      refine ⟨AL, cL, R.take 8, ?_, B3.out, ?_, fun x hx => S3.out x (HSUB.out x (List.mem_of_mem_take hx)), fun x hx => HOK.out x (HSUB.out x (List.mem_of_mem_take hx)), ?_⟩
      · rw [← HLN.out]; rfl
      · have e8 : (rkC R).take ((R.take 8).length * 9) = rkC (R.take 8) := by
          have e : rkC R = rkC (R.take 8) ++ rkC (R.drop 8) := by rw [← rkC_append, List.take_append_drop]
          rw [e, List.take_append_of_le_length (by rw [rkC_length]; exact Nat.le_refl _), List.take_of_length_le (by rw [rkC_length]; exact Nat.le_refl _)]
        exact own_take R3.out (by rw [List.length_take]; exact Nat.min_le_right _ _) e8.symm (fun h0 => by have hz : R = [] := List.eq_nil_of_length_eq_zero h0; rw [hz]; exact ⟨rfl, rfl⟩)
      · unfold Cut.gate
        rw [← HRES.out]; simp [rlv, List.map_take]
    have hin' : (i : Int) < (n : Int) := by omega
    have hix : i < xs.length := by rw [HN.out]; exact hin
    obtain ⟨a, hA, hab, d0, d1, -⟩ := HA.out.at_ hix
    subst hA
    have f0 := (B1.out.cell (p := a.add (i * 2)) (by rw [add_block]; exact hab)).trans d0
    have f1 := (B1.out.cell (p := ⟨(a.add (i * 2)).block, (a.add (i * 2)).off + 1, none⟩) (by show (a.add (i * 2)).block < _; rw [add_block]; exact hab)).trans d1
    obtain ⟨x, hxx⟩ : ∃ x, xs[i] = x := ⟨_, rfl⟩
    have HX := Lib.hid hxx
    rw [hxx] at f0 f1
    simp only [slv] at f0
    clear d0 d1 hxx
    have X1 := Lib.hid (Blk.made wr 34 #[.slice x.1.1 x.1.2.2.length x.1.2.1, .int .u64 (x.2 : Int)])
    have B2 := Lib.hid (below_then B1.out (below_new wr (.cells #[.slice x.1.1 x.1.2.2.length x.1.2.1, .int .u64 (x.2 : Int)] 34)))
    have hcz := cutZero
    have O2 := Lib.hid (HO.out.alloc (.cells #[.slice x.1.1 x.1.2.2.length x.1.2.1, .int .u64 (x.2 : Int)] 34))
    have S2 := Lib.hid (show ∀ z ∈ rs, OwnL w.heap.size (wr.alloc (.cells #[.slice x.1.1 x.1.2.2.length x.1.2.1, .int .u64 (x.2 : Int)] 34)) z.2 from fun z hz => (HS.out z hz).later (below_new _ _))
    go_wp2_with fail
    clear f0 f1 HO HS B1
    generalize wr.alloc (.cells #[.slice x.1.1 x.1.2.2.length x.1.2.1, .int .u64 (x.2 : Int)] 34) = w2 at X1 B2 O2 S2 ⊢
    obtain ⟨bx, hbx⟩ : ∃ b, wr.heap.size = b := ⟨_, rfl⟩
    rw [hbx] at X1 ⊢
    clear hbx
    go_loopw [9, 25] (fun v9 v25 wx => ∃ (j : Nat) (AM : Option Addr) (cM : Nat) (ms : List RK), j ≤ m ∧ v25 = .int .i64 (j : Int) ∧ v9 = .slice AM ms.length cM ∧ rlv ms = Cut.msTo (lvs xs) (lvs ys) k (i * m + j) ∧ ms.length ≤ i * m + j ∧ wx.ownsRow w.heap.size 105 9 (.slice AM ms.length cM) ms.length (rkC ms) ∧ (∀ x ∈ ms, OwnL w.heap.size wx x.2) ∧ RkOk d N ms ∧ Blk wx bx 34 #[.slice x.1.1 x.1.2.2.length x.1.2.1, .int .u64 (x.2 : Int)] ∧ Below w.heap.size w wx) (fun _ v25 _ => m - (intOf v25).toNat)
    case atStart => exact ⟨0, AL, cL, rs, by omega, rfl, rfl, HCON.out, hlen, O2.out, S2.out, HOK.out, X1.out, B2.out⟩
    case round =>
      clear HCON X1 O2 S2 B2 hlen HOK
      obtain ⟨j, AM, cM, ms, hj, rfl, rfl, hcon, hlen, hown, hSL, hok, hX, hB⟩ := hrel
      have HCON := Lib.hid hcon
      have HO := Lib.hid hown
      have HS := Lib.hid hSL
      have HOK := Lib.hid hok
      have X1 := Lib.hid hX
      have B1 := Lib.hid hB
      have him : i * m ≤ 2500 := Nat.le_trans (Nat.mul_le_mul (by omega : i ≤ 50) hnb) (by omega)
      clear hcon hown hSL hok hX hB
      by_cases hjm : j < m
      case neg =>
        obtain rfl : j = m := by omega
        have HCO2 := Lib.hid (show rlv ms = Cut.msTo (lvs xs) (lvs ys) k ((i + 1) * j) by rw [Nat.add_mul, Nat.one_mul]; exact HCON.out)
        have hlen2 : ms.length ≤ (i + 1) * j := by rw [Nat.add_mul, Nat.one_mul]; exact hlen
        clear HCON
        go_wp2_with fail
        go_roundw
        case rel => exact ⟨i + 1, AM, cM, ms, by omega, by go_num, rfl, HCO2.out, hlen2, HO.out, HS.out, HOK.out, B1.out⟩
        case measure => simp [intOf]; omega
      have hjm' : (j : Int) < (m : Int) := by omega
      have hjy : j < ys.length := by rw [HM.out]; exact hjm
      obtain ⟨b, hBB, hbb, d0, d1, -⟩ := HB.out.at_ hjy
      subst hBB
      have f0 := (B1.out.cell (p := b.add (j * 2)) (by rw [add_block]; exact hbb)).trans d0
      have f1 := (B1.out.cell (p := ⟨(b.add (j * 2)).block, (b.add (j * 2)).off + 1, none⟩) (by show (b.add (j * 2)).block < _; rw [add_block]; exact hbb)).trans d1
      have hgn := HGN.out i j hix hjy
      have hmg := fun (W : World) (hB : Below w.heap.size w W) => HMG.out W hB i j hix hjy
      rw [HX.out] at hgn hmg
      have HG1 := Lib.hid hgn
      have HM1 := Lib.hid hmg
      have hl1 := HLA.out _ (List.getElem_mem hix)
      rw [HX.out] at hl1
      have HL1 := Lib.hid hl1
      have HL2 := Lib.hid (HLB.out _ (List.getElem_mem hjy))
      clear d0 d1 hgn hmg hl1
      generalize ys[j] = y at f0 f1 HG1 HM1 HL2
      simp only [slv] at f0
      have Y1 := Lib.hid (Blk.made wr 34 #[.slice y.1.1 y.1.2.2.length y.1.2.1, .int .u64 (y.2 : Int)])
      have X2 := Lib.hid (X1.out.alloc (.cells #[.slice y.1.1 y.1.2.2.length y.1.2.1, .int .u64 (y.2 : Int)] 34))
      have B2 := Lib.hid (below_then B1.out (below_new wr (.cells #[.slice y.1.1 y.1.2.2.length y.1.2.1, .int .u64 (y.2 : Int)] 34)))
      have O2 := Lib.hid (HO.out.alloc (.cells #[.slice y.1.1 y.1.2.2.length y.1.2.1, .int .u64 (y.2 : Int)] 34))
      have S2 := Lib.hid (show ∀ z ∈ ms, OwnL w.heap.size (wr.alloc (.cells #[.slice y.1.1 y.1.2.2.length y.1.2.1, .int .u64 (y.2 : Int)] 34)) z.2 from fun z hz => (HS.out z hz).later (below_new _ _))
      go_upto_region 8 with (fail)
      clear f0 f1 HO HS B1 X1
      generalize wr.alloc (.cells #[.slice y.1.1 y.1.2.2.length y.1.2.1, .int .u64 (y.2 : Int)] 34) = w3 at Y1 X2 B2 O2 S2 ⊢
      obtain ⟨bby, hby⟩ : ∃ b, wr.heap.size = b := ⟨_, rfl⟩
      rw [hby] at Y1 ⊢
      have g0 := X2.out.cell 0
      have g1 := Y1.out.cell 0
      clear hby
      go_wp2_with fail
      refine (HM1.out _ B2.out).mono ?_
      rintro e w4 ⟨A4, c4, rfl, hb4, ho4⟩
      have B4 := Lib.hid (below_then B2.out hb4)
      have O4 := Lib.hid (own_keep O2.out hb4)
      have S4 := Lib.hid (show ∀ z ∈ ms, OwnL w.heap.size w4 z.2 from fun z hz => (S2.out z hz).later hb4)
      have X4 := Lib.hid (X2.out.keep hb4)
      have L4 := Lib.hid (own_down ho4 (base' := w.heap.size) B2.out.size)
      clear hb4 ho4 g0 g1
      have hme := fun z (h : Cut.merge x.1.2.2 y.1.2.2 k = some z) => Cut.merge_mem h
      have HME := Lib.hid hme
      clear hme
      obtain ⟨o, ho⟩ : ∃ o, Cut.merge x.1.2.2 y.1.2.2 k = o := ⟨_, rfl⟩
      rw [ho] at HME HG1 L4 ⊢
      clear ho
      cases o with
      | none =>
        simp only [Option.getD_none, Option.isSome_none, List.length_nil]
        have HG2 := Lib.hid (show Cut.msTo (lvs xs) (lvs ys) k (i * m + j + 1) = Cut.msTo (lvs xs) (lvs ys) k (i * m + j) from HG1.out)
        go_wp2_with fail
        go_roundw
        case rel => exact ⟨j + 1, AM, cM, ms, by omega, by go_num, rfl, HCON.out.trans HG2.out.symm, by omega, O4.out, S4.out, HOK.out, X4.out, B4.out⟩
        case measure => simp [intOf]; omega
      | some z =>
        simp only [Option.getD_some, Option.isSome_some]
        obtain ⟨-, -, hz1, hz2, hz3⟩ := HME.out z rfl
        have hzl : z.length ≤ 6 := by omega
        have hzn : NodesIn N z := fun t ht => by rcases hz3 t ht with h | h; exact HL1.out.1 t h; exact HL2.out.1 t h
        have HZN := Lib.hid hzn
        have HG2 := Lib.hid (show Cut.msTo (lvs xs) (lvs ys) k (i * m + j + 1) = Cut.msTo (lvs xs) (lvs ys) k (i * m + j) ++ [z] from HG1.out)
        have L4' := Lib.hid (show w4.ownsRow w.heap.size 3 1 (.slice A4 z.length c4) z.length (ints z) from L4.out)
        have hdep := HDE.out w4 B4.out A4 c4 z (Rd.of_own L4'.out) hzn hzl
        have hdb := HDB.out z
        have HRO := Lib.hid (show Cut.rankOf d z = Cut.deep d z :: (z.length : Int) :: (List.range 6).map (fun i => z.getD i 0) from rfl)
        generalize Cut.deep d z = dz at hdep hdb HRO
        have HDP := Lib.hid hdep
        obtain ⟨hd1, hd2⟩ := hdb
        clear hdep hz1 hz2 hz3 hzn L4
        go_wp2_with fail
        refine HDP.out.mono ?_
        rintro e w5 ⟨rfl, hb5⟩
        have B5 := Lib.hid (below_then B4.out hb5)
        have O5 := Lib.hid (own_keep O4.out hb5)
        have S5 := Lib.hid (show ∀ z ∈ ms, OwnL w.heap.size w5 z.2 from fun z hz => (S4.out z hz).later hb5)
        have X5 := Lib.hid (X4.out.keep hb5)
        have L5 := Lib.hid (own_keep L4'.out hb5)
        clear hb5 S4 O4 X4 L4' B4 HDP
        go_upto_region 11 with (fail)
        have R6 := Lib.hid (show (w5.alloc (.cells #[.int .i64 dz, .int .i64 (z.length : Int), .int .i64 0, .int .i64 0, .int .i64 0, .int .i64 0, .int .i64 0, .int .i64 0] 103)).heap[w5.heap.size]? = some (.cells ([.int .i64 dz, .int .i64 (z.length : Int), .int .i64 0, .int .i64 0, .int .i64 0, .int .i64 0, .int .i64 0, .int .i64 0] : List Value).toArray 103 (0, 0)) from Blk.made w5 103 (([.int .i64 dz, .int .i64 (z.length : Int), .int .i64 0, .int .i64 0, .int .i64 0, .int .i64 0, .int .i64 0, .int .i64 0] : List Value)).toArray)
        have HZL := Lib.hid hzl
        have HL5 := Lib.hid (Rd.later (Rd.of_own L5.out) (below_new w5 (.cells #[.int .i64 dz, .int .i64 (z.length : Int), .int .i64 0, .int .i64 0, .int .i64 0, .int .i64 0, .int .i64 0, .int .i64 0] 103)))
        have B6 := Lib.hid (below_new w5 (.cells #[.int .i64 dz, .int .i64 (z.length : Int), .int .i64 0, .int .i64 0, .int .i64 0, .int .i64 0, .int .i64 0, .int .i64 0] 103))
        have HSP := Lib.hid (six_splice dz (z.length : Int) z hzl)
        rw [← HRO.out] at HSP
        obtain ⟨r0, r1, r2, r3, r4, r5, r6, r7, hr⟩ : ∃ r0 r1 r2 r3 r4 r5 r6 r7, Cut.rankOf d z = [r0, r1, r2, r3, r4, r5, r6, r7] := ⟨_, _, _, _, _, _, _, _, rfl⟩
        rw [hr] at HSP
        have HRR := Lib.hid hr
        clear hr HRO
        go_upto_region 12 with (with_reducible refine wpList_copy_splice rfl (.tmp 46) (.tmp 47) 24 24 rfl 3 Tryd.underlying24 size_int1 (some ⟨w5.heap.size, 2, none⟩) A4 6 6 z.length c4 rfl rfl w5.heap.size 2 [.int .i64 dz, .int .i64 (z.length : Int), .int .i64 0, .int .i64 0, .int .i64 0, .int .i64 0, .int .i64 0, .int .i64 0] 103 R6.out (ints z) ?c0 ?c1 ?c2 (fun v hv => ints_one hv) w5.heap.size w5 B6.out (Nat.le_refl _) ?_)
        case c0 => rw [ints_length]; exact (Nat.min_eq_left HZL.out).symm
        case c1 =>
          intro hpos
          obtain ⟨ad, hA4⟩ : ∃ ad, A4 = some ad := by
            cases A4 with
            | none => have h1 := HL5.out.nil rfl; have h2 := HL5.out.cap; rw [ints_length] at hpos; omega
            | some ad => exact ⟨ad, rfl⟩
          refine ⟨ad, hA4, fun j v hj => ?_⟩
          obtain ⟨a', e, -, hc⟩ := HL5.out.read j v hj
          rw [hA4] at e
          obtain rfl := Option.some.inj e
          exact hc
        case c2 => rw [ints_length]; have := HZL.out; simp; omega
        intro w7 hg7 hb7
        have B7 := Lib.hid (below_then B5.out hb7)
        have O7 := Lib.hid (own_keep O5.out hb7)
        have S7 := Lib.hid (show ∀ z ∈ ms, OwnL w.heap.size w7 z.2 from fun z hz => (S5.out z hz).later hb7)
        have X7 := Lib.hid (X5.out.keep hb7)
        have L7 := Lib.hid (own_keep L5.out hb7)
        have R7 := Lib.hid (show Blk w7 w5.heap.size 103 #[.int .i64 r0, .int .i64 r1, .int .i64 r2, .int .i64 r3, .int .i64 r4, .int .i64 r5, .int .i64 r6, .int .i64 r7] from by
          have h := hg7.out
          rw [HSP.out] at h
          exact h)
        clear hg7 hb7 R6 HL5 B6 HSP S5 O5 X5 L5
        have k0 := R7.out.cell 0
        have k1 := R7.out.cell 1
        have k2 := R7.out.cell 2
        have k3 := R7.out.cell 3
        have k4 := R7.out.cell 4
        have k5 := R7.out.cell 5
        have k6 := R7.out.cell 6
        have k7 := R7.out.cell 7
        have RD7 := Lib.hid (rd_newK w7 105 [.int .i64 r0, .int .i64 r1, .int .i64 r2, .int .i64 r3, .int .i64 r4, .int .i64 r5, .int .i64 r6, .int .i64 r7, .slice A4 z.length c4] 9 1 rfl)
        have HS7 := Lib.hid (B7.out.size)
        have hml : ms.length + 1 ≤ 100000 := by omega
        go_wp2_with (at_builtin; refine wpList_app_row rfl (.tmp 49) (.tmp 53) 100 105 rfl Tryd.underlying100 _ 9 88 ranked_info rfl (by decide) (by decide) w.heap.size AM ms.length cM (rkC ms) rfl (O7.out.alloc _) (some ⟨w7.heap.size, 0, none⟩) 1 1 [.int .i64 r0, .int .i64 r1, .int .i64 r2, .int .i64 r3, .int .i64 r4, .int .i64 r5, .int .i64 r6, .int .i64 r7, .slice A4 z.length c4] rfl RD7.out (cells9_one _ _ _ _ _ _ _ _ _ _ _) (by omega) (Nat.le_trans HS7.out (by simp)) ?_; intro A8 c8 w8 hown8 hg8)
        have henc : rkC (ms ++ [((Cut.rankOf d z, (A4, c4, z)) : RK)]) = rkC ms ++ [.int .i64 r0, .int .i64 r1, .int .i64 r2, .int .i64 r3, .int .i64 r4, .int .i64 r5, .int .i64 r6, .int .i64 r7, .slice A4 z.length c4] := by
          rw [rkC_append, HRR.out]; rfl
        have hl8 : (ms ++ [((Cut.rankOf d z, (A4, c4, z)) : RK)]).length = ms.length + 1 := by simp
        have O8 := Lib.hid (show w8.ownsRow w.heap.size 105 9 (.slice A8 (ms ++ [((Cut.rankOf d z, (A4, c4, z)) : RK)]).length c8) (ms ++ [((Cut.rankOf d z, (A4, c4, z)) : RK)]).length (rkC (ms ++ [((Cut.rankOf d z, (A4, c4, z)) : RK)])) by rw [henc, hl8]; exact hown8)
        have S8 := Lib.hid (show ∀ x ∈ ms ++ [((Cut.rankOf d z, (A4, c4, z)) : RK)], OwnL w.heap.size w8 x.2 from fun x hx => by
          rcases List.mem_append.1 hx with h | h
          · exact ((S7.out x h).later (below_new _ _)).grown (O7.out.alloc _) hg8
          · rw [List.mem_singleton] at h
            subst h
            exact OwnL.grown (l := (A4, c4, z)) (OwnL.later (l := (A4, c4, z)) L7.out (below_new _ _)) (O7.out.alloc _) hg8)
        have K8 := Lib.hid (show RkOk d N (ms ++ [((Cut.rankOf d z, (A4, c4, z)) : RK)]) from fun x hx => by
          rcases List.mem_append.1 hx with h | h
          · exact HOK.out x h
          · rw [List.mem_singleton] at h
            subst h
            exact ⟨rfl, HZN.out, HZL.out⟩)
        have C8 := Lib.hid (show rlv (ms ++ [((Cut.rankOf d z, (A4, c4, z)) : RK)]) = Cut.msTo (lvs xs) (lvs ys) k (i * m + (j + 1)) from by
          have e : i * m + (j + 1) = i * m + j + 1 := by omega
          rw [e, HG2.out, ← HCON.out]; simp [rlv])
        have X8 := Lib.hid ((X7.out.alloc _).grown hg8 (fun h => own_other (O7.out) X7.out (by decide) h.symm))
        have B8 := Lib.hid ((below_then B7.out (below_new w7 _)).grown hg8 (Nat.le_trans HS7.out (by simp)) (fun q hq => own_base O7.out hq))
        have hl9 := Lib.hid hl8
        clear hown8 hg8 henc hl8 k0 k1 k2 k3 k4 k5 k6 k7
        go_wp2_with fail
        go_roundw
        case rel => exact ⟨j + 1, A8, c8, _, by omega, by go_num, by rw [hl9.out], C8.out, by rw [hl9.out]; omega, O8.out, S8.out, K8.out, X8.out, B8.out⟩
        case measure => simp [intOf]; omega
end Go.Proofs.YtkhlllbceceikaaDoor
