/- Walks of filigreeref27.value, Eval. · Walk of filigreeref27.Eval. · Walk of filigreeref27.Run. -/
import Derived.Test.YtoloaecbfglaeaaGreatROrdC
import Derived.Laws.CopyOwn

namespace Go.Proofs.YtoloaecbfglaeaaGreat
open Go.RowKit Topo
set_option linter.unusedVariables false
set_option linter.unusedSimpArgs false

theorem and1_i64 (m : Nat) (h : m < 4294967296) : bits .and .i64 (m : Int) 1 = ((m % 2 : Nat) : Int) := by
  have := i64_and_nat m 1 (by omega) (by omega)
  rw [Nat.and_one_is_mod] at this
  exact this
set_option maxRecDepth 100000 in
set_option maxHeartbeats 4000000 in
theorem rvalue_any (A : Option Addr) (c : Nat) (l : List Int) (t : Nat) (ff it : Bool) (WA : Option Addr) (n cW : Nat) (W : List Bool) (w : World) (hr : Rd w 1 A l.length c (ints l)) (hW : Rd w 1 WA n cW (bools W)) (hl : l.length ≤ 4) (hx : ∀ x ∈ l, 0 ≤ x ∧ x < (n : Int)) (ht : t ≤ 65536) (hn : n ≤ 100000000) :
    Calls Tryz.prog 71 #[.agg #[.slice A l.length c, .int .i64 (t : Int), .bool ff, .bool it], .slice WA n cW] w (ValOut (valB l t W) w) := by
  have hb := below_new w (.cells #[.slice A l.length c, .int .i64 (t : Int), .bool ff, .bool it] 67)
  have Q0 := Lib.hid hb
  have R0 := Lib.hid (hr.later hb)
  have W0 := Lib.hid (hW.later hb)
  have X0 := Lib.hid (Blk.made w 67 #[.slice A l.length c, .int .i64 (t : Int), .bool ff, .bool it])
  have HX := Lib.hid hx
  have HAT := Lib.hid (fun k => atV_lt l W k)
  obtain ⟨r, hrr⟩ : ∃ r, valB l t W = r := ⟨_, rfl⟩
  rw [hrr]
  have HR := Lib.hid hrr
  clear hb hr hW hx hrr
  go_enter Tryz.func71, Tryz.ntmps71
  go_wp2_with fail
  generalize w.alloc (.cells #[.slice A l.length c, .int .i64 (t : Int), .bool ff, .bool it] 67) = w1 at Q0 R0 W0 X0 ⊢
  go_loop [5, 11] (fun v5 v11 => ∃ k : Nat, k ≤ l.length ∧ v11 = .int .i64 (k : Int) ∧ v5 = .int .i64 (atV l W k : Int)) (fun _ v11 => l.length - (intOf v11).toNat)
  case atStart => exact ⟨0, by omega, rfl, rfl⟩
  case round =>
    obtain ⟨k, hk, rfl, rfl⟩ := hrel
    have hat := HAT.out k
    by_cases hlt : k < l.length
    case neg =>
      obtain rfl : k = l.length := by omega
      have h16 : 2 ^ l.length ≤ 2 ^ 4 := Nat.pow_le_pow_right (by omega) hl
      obtain ⟨p, hp⟩ : ∃ p, 2 ^ atV l W l.length = p := ⟨_, rfl⟩
      have hp1 : 1 ≤ p := by rw [← hp]; exact Nat.two_pow_pos _
      have hp2 : p ≤ 65536 := by rw [← hp]; exact Nat.pow_le_pow_right (n := 2) (j := 16) (by omega) (by omega)
      have hsp := pow_nat hp
      have hv : r = decide (t / p % 2 = 1) := by rw [← HR.out, ← hp]; rfl
      have HV := Lib.hid hv
      have htp : t / p < 4294967296 := Nat.lt_of_le_of_lt (Nat.div_le_self t p) (by omega)
      have hbt := and1_i64 (t / p) htp
      have hdv : (t : Int) / (p : Int) = ((t / p : Nat) : Int) := by omega
      obtain ⟨d, hd⟩ : ∃ d, t / p = d := ⟨_, rfl⟩
      obtain ⟨d2, hd2⟩ : ∃ d2, d % 2 = d2 := ⟨_, rfl⟩
      rw [hd] at htp hbt hdv
      rw [hd2] at hbt
      have HD2 := Lib.hid (show r = decide (d2 = 1) by rw [hv, hd, hd2])
      have hd3 : d2 = 0 ∨ d2 = 1 := by omega
      have k1 := X0.out.cell 1
      have ha16 : atV l W l.length < 16 := by omega
      generalize atV l W l.length = av at hsp ha16 hp
      clear hv hat hp hd hd2 HV
      rcases hd3 with rfl | rfl
      · go_wp2_with fail
        go_ret
        exact ⟨by rw [HD2.out]; rfl, Q0.out⟩
      · go_wp2_with fail
        go_ret
        exact ⟨by rw [HD2.out]; rfl, Q0.out⟩
    obtain ⟨a, hA, -, cx⟩ := R0.out.int hlt
    subst hA
    have hg : l.getD k 0 = l[k] := by rw [List.getD_eq_getElem?_getD, List.getElem?_eq_getElem hlt]; rfl
    obtain ⟨hx0, hx1⟩ := HX.out l[k] (List.getElem_mem hlt)
    have hnx : atV l W (k + 1) = atV l W k + if W.getD (l.getD k 0).toNat false = true then 2 ^ k else 0 := rfl
    rw [hg] at cx hnx
    clear hg
    generalize l[k] = x at cx hx0 hx1 hnx
    obtain ⟨X, rfl⟩ := Int.eq_ofNat_of_zero_le hx0
    rw [Int.toNat_natCast] at hnx
    obtain ⟨aW, hAW, -, cw⟩ := W0.out.bool (k := X) (by omega)
    subst hAW
    obtain ⟨p, hp⟩ : ∃ p, 2 ^ k = p := ⟨_, rfl⟩
    have hp2 : p ≤ 16 := by rw [← hp]; exact Nat.pow_le_pow_right (n := 2) (j := 4) (by omega) (by omega)
    have hsp := pow_nat hp
    rw [hp] at hnx hat
    have ha16 : atV l W k < 16 := by omega
    generalize atV l W k = av at hnx ha16 hat
    have HNX := Lib.hid hnx
    clear hnx hp
    cases hb : W.getD X false with
    | false =>
      have h1 := HNX.out
      rw [hb, if_neg (by simp)] at h1
      have H1 := Lib.hid h1
      rw [hb] at cw
      clear h1 hb
      go_wp2_with fail
      go_round
      case rel => exact ⟨k + 1, by omega, by go_num, by rw [H1.out]; go_num⟩
      case measure => simp [intOf]; omega
    | true =>
      have h1 := HNX.out
      rw [hb, if_pos rfl] at h1
      have H1 := Lib.hid h1
      rw [hb] at cw
      clear h1 hb
      go_wp2_with fail
      go_round
      case rel => exact ⟨k + 1, by omega, by go_num, by rw [H1.out]; go_num⟩
      case measure => simp [intOf]; omega

/-! ## The wires, as the document lays them -/
theorem flop_pre (bs : List BL) : ∀ (n k : Nat), k ≤ n → ∃ r, flopTo bs n = flopTo bs k ++ r
  | 0, k, h => by obtain rfl : k = 0 := by omega
                  exact ⟨[], by simp⟩
  | n + 1, k, h => by
    by_cases hk : k = n + 1
    · subst hk; exact ⟨[], by simp⟩
    · obtain ⟨r, hr⟩ := flop_pre bs n k (by omega)
      rw [flopTo_next, hr]
      by_cases hf : ffAt bs n = true
      · rw [if_pos hf]; exact ⟨r ++ [n], by simp⟩
      · rw [if_neg hf]; exact ⟨r, rfl⟩
theorem flop_at {P : PK} {k : Nat} (hk : k < P.bs.length) (hf : ffAt P.bs k = true) : P.flops.getD (flopTo P.bs k).length 0 = k ∧ (flopTo P.bs k).length < P.flops.length := by
  obtain ⟨r, hr⟩ := flop_pre P.bs P.bs.length (k + 1) (by omega)
  rw [flopTo_next, if_pos hf] at hr
  unfold PK.flops
  rw [hr]
  simp [List.getD_eq_getElem?_getD]
theorem st_next {P : PK} {k : Nat} (hk : k < P.bs.length) (hf : ffAt P.bs k = true) (I : Nat) (ls W : List Bool) (hl : (flopTo P.bs k).length < ls.length) :
    stTo I P.flops ls W (min (flopTo P.bs (k + 1)).length ls.length) = (stTo I P.flops ls W (min (flopTo P.bs k).length ls.length)).set (I + k) (ls.getD (flopTo P.bs k).length false) := by
  have e1 : min (flopTo P.bs (k + 1)).length ls.length = (flopTo P.bs k).length + 1 := by rw [flopTo_next, if_pos hf]; simp; omega
  have e2 : min (flopTo P.bs k).length ls.length = (flopTo P.bs k).length := by omega
  rw [e1, e2]
  show (stTo I P.flops ls W (flopTo P.bs k).length).set (I + P.flops.getD (flopTo P.bs k).length 0) _ = _
  rw [(flop_at hk hf).1]
theorem copy_st (I : Nat) (F : List Nat) (ls li : List Bool) (n : Nat) (hl : li.length = I) : ∀ k, splice (stTo I F ls (List.replicate (I + n) false) k) 0 li = stTo I F ls (li ++ List.replicate n false) k
  | 0 => by
    show splice (List.replicate (I + n) false) 0 li = li ++ List.replicate n false
    unfold splice
    simp [hl]
  | k + 1 => by
    have ih := copy_st I F ls li n hl k
    show splice ((stTo I F ls (List.replicate (I + n) false) k).set (I + F.getD k 0) (ls.getD k false)) 0 li = (stTo I F ls (li ++ List.replicate n false) k).set (I + F.getD k 0) (ls.getD k false)
    rw [← ih]
    generalize stTo I F ls (List.replicate (I + n) false) k = W
    unfold splice
    subst hl
    simp only [List.take_zero, List.nil_append, Nat.zero_add]
    rw [List.drop_set, if_neg (by omega), List.set_append_right _ _ (by omega)]
theorem splice_bools (W li : List Bool) : splice (bools W) 0 (bools li) = bools (splice W 0 li) := by
  unfold splice
  simp [bools]
theorem own_of_blk {w : World} {g : Nat} {t : TypeId} {cs : List Value} {n base : Nat} (h : Blk w g t cs.toArray) (hl : cs.length = n) (hb : base ≤ g) (hn : n ≤ maxLen) : w.ownsRow base t 1 (.slice (some ⟨g, 0, none⟩) n n) n cs := by
  subst hl
  exact ⟨by simp, .inr ⟨g, cs.length, cs.toArray, rfl, hb, h, Nat.le_refl _, hn, by simp, by simp⟩⟩
theorem blk_of_own {w : World} {g : Nat} {t : TypeId} {cs : List Value} {n base : Nat} (h : w.ownsRow base t 1 (.slice (some ⟨g, 0, none⟩) n n) n cs) : Blk w g t cs.toArray := by
  obtain ⟨h1, h2⟩ := h
  rcases h2 with ⟨h3, -⟩ | ⟨g', cap, cur, he, hb, hg, h4, h5, h6, h7⟩
  · cases h3
  · injection he with e1 e2 e3
    injection e1 with e1
    injection e1 with e1
    subst e1 e3
    have : cur.toList = cs := by rw [← h7, List.take_of_length_le (by simp; omega)]
    show w.heap[g]? = _
    rw [hg, ← this]
theorem PK.blockFF {P : PK} {wx : World} (hin : P.In wx) (hm : P.may) {i : Nat} (hi : i < P.bs.length) : ∃ (a : Addr) (bA : Option Addr) (bc : Nat) (bl : List Int) (tn : Nat) (bff bit : Bool), P.AB = some a ∧
    wx.cell? (a.add (i * 4)) = some (.slice bA bl.length bc) ∧ wx.cell? ⟨(a.add (i * 4)).block, (a.add (i * 4)).off + 1, none⟩ = some (.int .i64 (tn : Int)) ∧ wx.cell? ⟨(a.add (i * 4)).block, (a.add (i * 4)).off + 2, none⟩ = some (.bool bff) ∧
    wx.cell? ⟨(a.add (i * 4)).block, (a.add (i * 4)).off + 3, none⟩ = some (.bool bit) ∧ Rd wx 1 bA bl.length bc (ints bl) ∧ bl.length ≤ 4 ∧ (∀ x ∈ bl, 0 ≤ x ∧ x < P.N) ∧ tn ≤ 65536 ∧ bff = ffAt P.bs i ∧ ∀ W, P.val i W = valB bl tn W := by
  obtain ⟨a, hA, hab, c0, c1, c2, c3⟩ := hin.blocks.block hi
  have hmem : P.bs[i] ∈ P.bs := List.getElem_mem hi
  obtain ⟨h4, hx, -, ht0, ht1⟩ := hm.2.2.2.1 _ hmem
  have he : (P.bs[i].t.toNat : Int) = P.bs[i].t := by omega
  exact ⟨a, P.bs[i].A, P.bs[i].c, P.bs[i].l, P.bs[i].t.toNat, P.bs[i].ff, P.bs[i].it, hA, c0, by rw [he]; exact c1, c2, c3, hin.each _ hmem, h4, any_bad_no hx, tab_le ht0 ht1 h4, (ffAt_get hi).symm, fun W => by
    unfold PK.val; rw [inL_get hi, tAt_get hi]⟩
def REVAL (P : PK) (IA : Option Addr) (cI : Nat) (li : List Bool) (SA : Option Addr) (cS : Nat) (ls : List Bool) (w : World) (R : Ending → World → Prop) : Prop :=
  Calls Tryz.prog 37 #[.agg #[.int .i64 P.I, .slice P.AB P.bs.length P.cB, .slice P.AO P.outs.length P.cO], .slice IA li.length cI, .slice SA ls.length cS] w R

set_option maxRecDepth 100000 in
set_option maxHeartbeats 2000000 in
theorem reval_no (P : PK) (IA : Option Addr) (cI : Nat) (li : List Bool) (SA : Option Addr) (cS : Nat) (ls : List Bool) (w : World) (hin : P.In w) (hf : P.fit) (h : ¬ (P.may ∧ ∃ m, All (depE P.E) P.S m)) : REVAL P IA cI li SA cS ls w (EvalOut P li ls w) := by
  have T0 := Lib.hid (MW.new w P)
  have hi1 := hin.later (below_new w (.cells #[.int .i64 P.I, .slice P.AB P.bs.length P.cB, .slice P.AO P.outs.length P.cO] 33))
  unfold REVAL
  obtain ⟨k0, k1, k2⟩ := T0.out.cells
  by_cases hm : P.may
  · have ho := rOrder_yes P _ hi1 hf hm
    unfold RORD at ho
    have HO := Lib.hid ho
    have H := Lib.hid h
    have HM := Lib.hid hm
    clear ho hin hi1 hf h hm
    go_enter Tryz.func37, Tryz.ntmps37
    go_wp2_with fail
    refine HO.out.mono ?_
    rintro e w1 (⟨A, c, O, rfl, hA, hb, -⟩ | ⟨rfl, hA, hb⟩)
    · exact absurd ⟨HM.out, O, hA⟩ H.out
    · have T1 := Lib.hid (T0.out.keep hb)
      have HA := Lib.hid hA
      clear hb hA k0 k1 k2
      go_wp2_with fail
      refine bodyPost_ret (results_tmp3 Tryz.results37 _ _ _) rfl ?_
      exact ⟨none, 0, [], none, 0, [], 321, rfl, T1.out.below, World.ownsRow_nil _ _ _ _, World.ownsRow_nil _ _ _ _, .inl ⟨.inr (.inr ⟨rfl, HM.out, HA.out⟩), by decide, rfl, rfl⟩⟩
  · have ho := rOrder_no P _ hi1 hf hm
    unfold RORD at ho
    have HO := Lib.hid ho
    have HM := Lib.hid hm
    clear ho hin hi1 hf h hm
    go_enter Tryz.func37, Tryz.ntmps37
    go_wp2_with fail
    refine HO.out.mono ?_
    rintro e w1 ⟨rfl, hb⟩
    have T1 := Lib.hid (T0.out.keep hb)
    clear hb k0 k1 k2
    go_wp2_with fail
    refine bodyPost_ret (results_tmp3 Tryz.results37 _ _ _) rfl ?_
    exact ⟨none, 0, [], none, 0, [], 1, rfl, T1.out.below, World.ownsRow_nil _ _ _ _, World.ownsRow_nil _ _ _ _, .inl ⟨.inr (.inl ⟨rfl, HM.out⟩), by decide, rfl, rfl⟩⟩

end Go.Proofs.YtoloaecbfglaeaaGreat

namespace Go.Proofs.YtoloaecbfglaeaaGreat
open Go.RowKit Topo
set_option linter.unusedVariables false
set_option linter.unusedSimpArgs false

set_option maxRecDepth 100000 in
set_option maxHeartbeats 8000000 in
theorem reval_yes (P : PK) (IA : Option Addr) (cI : Nat) (li : List Bool) (SA : Option Addr) (cS : Nat) (ls : List Bool) (w : World) (hin : P.In w) (hf : P.fit) (hm : P.may) (hall : ∃ m, All (depE P.E) P.S m)
    (hri : Rd w 1 IA li.length cI (bools li)) (hrs : Rd w 1 SA ls.length cS (bools ls)) (hli : li.length ≤ 100000) (hls : ls.length ≤ 100000) : REVAL P IA cI li SA cS ls w (EvalOut P li ls w) := by
  have T0 := Lib.hid (MW.new w P)
  have hi1 := hin.later (below_new w (.cells #[.int .i64 P.I, .slice P.AB P.bs.length P.cB, .slice P.AO P.outs.length P.cO] 33))
  have ho := rOrder_yes P _ hi1 hf hm
  unfold RORD at ho
  unfold REVAL
  have HO := Lib.hid ho
  have HM := Lib.hid hm
  have HALL := Lib.hid hall
  have HIN := Lib.hid hin
  have HRI := Lib.hid hri
  have HRS := Lib.hid hrs
  have HF := Lib.hid hf
  have hfn := flopTo_len P.bs P.bs.length
  obtain ⟨hI0, hI1⟩ : 0 ≤ P.I ∧ P.I ≤ 1024 := ⟨hm.1, hm.2.1⟩
  have hnb := hm.2.2.1
  obtain ⟨NI, hNI⟩ := Int.eq_ofNat_of_zero_le hI0
  have HNI := Lib.hid hNI
  obtain ⟨AB, hAB⟩ : ∃ A, P.AB = A := ⟨_, rfl⟩
  have HAB := Lib.hid hAB
  obtain ⟨m, hmN⟩ : ∃ m, NI + P.bs.length = m := ⟨_, rfl⟩
  have hm1 : m ≤ 4000 := by omega
  have hmI : (NI : Int) + (P.bs.length : Int) = (m : Int) := by omega
  have htc : (Tryz.prog.info? 4).map (fun i => (i.zero, i.size, i.bytes)) = some (some (.bool false), 1, 1) := by kernel_rfl
  obtain ⟨i0, hi0, hz0, hz1, hz2⟩ := info_parts htc
  have HI0 := Lib.hid hi0
  have HZ0 := Lib.hid hz0
  have HZ1 := Lib.hid hz1
  have HZ2 := Lib.hid hz2
  obtain ⟨nF, hnF⟩ : ∃ n, P.flops.length = n := ⟨_, rfl⟩
  have HNF := Lib.hid hnF
  have hnF1 : nF ≤ P.bs.length := by rw [← hnF]; exact hfn
  obtain ⟨k0, k1, k2⟩ := T0.out.cells
  clear ho hin hi1 hf hm hall hri hrs hi0 hz0 hz1 hz2 htc hAB hnF hfn hNI
  go_enter Tryz.func37, Tryz.ntmps37
  go_wp2_with fail
  refine HO.out.mono ?_
  rintro e w2 (⟨AR, cR, O, rfl, hA, hb, hrO⟩ | ⟨rfl, hA, hb⟩)
  case inr =>
    obtain ⟨m, hm⟩ := HALL.out
    exact absurd hm (hA m)
  have T2 := Lib.hid (T0.out.keep hb)
  have HA := Lib.hid hA
  have hOl := all_len_le hA
  have HRO2 := Lib.hid hrO
  clear hb hA hrO k0 k1 k2
  obtain ⟨k0, k1, k2⟩ := T2.out.cells
  rw [HNI.out] at k0
  rw [HAB.out] at k1
  have hz2 : w.heap.size < w2.heap.size := T2.out.box.lt
  go_wp2_with ((with_reducible refine wpList_make_full _ rfl (.tmp 36) (.tmp 36) 25 rfl w2.heap.size 4 i0 (.bool false) 1 Tryz.underlying25 HI0.out HZ0.out HZ1.out .i64 .i64 (m : Int) (m : Int) m rfl rfl rfl rfl ?c1 ?c2 (Nat.le_refl _) ?_))
  case c1 => rw [HZ2.out]; omega
  case c2 => unfold maxLen; omega
  intro w3 hm3 hg3
  have hb3 : Below w2.heap.size w2 w3 := (Below.refl _ _).grown hg3 (Nat.le_refl _) (fun _ h => by cases h)
  rw [show (madeCells #[Value.bool false] m).toList = bools (List.replicate m false) by rw [toList_madeCells_one]; simp [bools]] at hm3
  have V3 := Lib.hid (show VW w2 w3 (some ⟨w2.heap.size, 0, none⟩) m m (List.replicate m false) from ⟨hb3, hm3⟩)
  have T3 := Lib.hid (T2.out.keep hb3)
  clear hb3 hm3 hg3 k0 k1 k2
  obtain ⟨k0, k1, k2⟩ := T3.out.cells
  rw [HAB.out] at k1
  go_wp2_with fail
  go_loopw [12, 41] (fun v12 v41 wx => ∃ k : Nat, k ≤ P.bs.length ∧ v41 = .int .i64 (k : Int) ∧ v12 = .int .i64 ((flopTo P.bs k).length : Int) ∧ VW w2 wx (some ⟨w2.heap.size, 0, none⟩) m m (stTo NI P.flops ls (List.replicate m false) (min (flopTo P.bs k).length ls.length))) (fun _ v41 _ => P.bs.length - (intOf v41).toNat)
  case atStart => exact ⟨0, by omega, rfl, rfl, by have := V3.out; simpa [flopTo, stTo] using this⟩
  case round =>
    clear V3 T3 k0 k1 k2
    obtain ⟨k, hk, rfl, rfl, hV⟩ := hrel
    have V4 := Lib.hid hV
    have T4 := Lib.hid (T2.out.keep hV.below)
    have hz4 := hV.below.size
    have hfl := flopTo_len P.bs k
    clear hV
    obtain ⟨k0, k1, k2⟩ := T4.out.cells
    rw [HNI.out] at k0
    rw [HAB.out] at k1
    by_cases hlt : k < P.bs.length
    case neg =>
      obtain rfl : k = P.bs.length := by omega
      have hfe : (flopTo P.bs P.bs.length).length = nF := HNF.out
      rw [hfe] at V4
      rw [hfe]
      clear hfe hfl k2
      by_cases g1 : li.length = NI
      case neg =>
        have g1' : ((li.length : Int) != (NI : Int)) = true := by rw [bne_iff_ne]; omega
        have G1 := Lib.hid g1
        clear g1 k1
        go_wp2_with fail
        refine bodyPost_ret (results_tmp3 Tryz.results37 _ _ _) rfl ?_
        exact ⟨none, 0, [], none, 0, [], 1, rfl, T4.out.below, World.ownsRow_nil _ _ _ _, World.ownsRow_nil _ _ _ _, .inr (.inl ⟨.inl ⟨rfl, HM.out, HALL.out⟩, .inl (by rw [HNI.out]; have := G1.out; omega), rfl, rfl, rfl⟩)⟩
      have g1' : ((li.length : Int) != (NI : Int)) = false := by rw [bne_eq_false_iff_eq]; omega
      have G1 := Lib.hid g1
      clear g1
      by_cases g2 : ls.length = nF
      case neg =>
        have g2' : ((ls.length : Int) != (nF : Int)) = true := by rw [bne_iff_ne]; omega
        have G2 := Lib.hid g2
        clear g2 k1
        go_wp2_with fail
        refine bodyPost_ret (results_tmp3 Tryz.results37 _ _ _) rfl ?_
        exact ⟨none, 0, [], none, 0, [], 1, rfl, T4.out.below, World.ownsRow_nil _ _ _ _, World.ownsRow_nil _ _ _ _, .inr (.inl ⟨.inl ⟨rfl, HM.out, HALL.out⟩, .inr (by rw [HNF.out]; exact G2.out), rfl, rfl, rfl⟩)⟩
      have g2' : ((ls.length : Int) != (nF : Int)) = false := by rw [bne_eq_false_iff_eq]; omega
      have G2 := Lib.hid g2
      have hmn : min nF ls.length = nF := by omega
      rw [hmn] at V4
      clear g2 hmn
      have hcs := copy_st NI P.flops ls li P.bs.length G1.out nF
      rw [hmN] at hcs
      have HCS := Lib.hid hcs
      have hw1 : stTo NI P.flops ls (li ++ List.replicate P.bs.length false) nF = P.w1 li ls := by
        unfold PK.w1; rw [HNI.out, HNF.out]; rfl
      have HW1 := Lib.hid hw1
      have hblk : wr.heap[w2.heap.size]? = some (.cells (bools (stTo NI P.flops ls (List.replicate m false) nF)).toArray 4 (0, 0)) := blk_of_own V4.out.own
      have HBK := Lib.hid hblk
      have hlw := V4.out.len
      have HLW := Lib.hid hlw
      have RI4 := Lib.hid ((HRI.out.later T4.out.below))
      have hlm : li.length ≤ m := by have := G1.out; omega
      have BL4 := Lib.hid V4.out.below
      clear hcs hw1 hblk hlw
      generalize stTo NI P.flops ls (List.replicate m false) nF = W4 at HCS HBK HLW V4
      go_wp2_with (with_reducible refine wpList_copy_splice rfl (.tmp 76) (.tmp 77) 25 25 rfl 4 Tryz.underlying25 (by rw [HI0.out]; simp [HZ1.out]) (some ⟨w2.heap.size, 0, none⟩) IA m m li.length cI rfl rfl w2.heap.size 0 (bools W4) 4 HBK.out (bools li) (by rw [bools_length]; exact (Nat.min_eq_left hlm).symm) ?c1 (by rw [bools_length, bools_length, HLW.out]; omega) ?c2 w2.heap.size w2 BL4.out (Nat.le_refl _) ?_)
      case c1 =>
        intro hpos
        have hpos' : 0 < li.length := by simpa [bools_length] using hpos
        obtain ⟨a, ha, -, -⟩ := RI4.out.bool (k := 0) hpos'
        have hc : ∀ j v, (bools li)[j]? = some v → wr.cell? (a.add j) = some v := fun j v hj => by
          obtain ⟨a', e, -, h2⟩ := RI4.out.read j v hj
          rw [ha] at e
          injection e with e
          subst e
          exact h2
        first | exact ⟨rfl, a, ha, hc⟩ | exact ⟨a, ha, hc⟩
      case c2 =>
        intro v hv
        obtain ⟨b, -, rfl⟩ := List.mem_map.1 hv
        rfl
      intro w5 hg5 hb5
      have hb6 : Blk w5 w2.heap.size 4 (bools (P.w1 li ls)).toArray := by
        have := hg5.out
        rw [splice_bools, HCS.out, HW1.out] at this
        exact this
      have V5 := Lib.hid (show VW w2 w5 (some ⟨w2.heap.size, 0, none⟩) m m (P.w1 li ls) from ⟨hb5, own_of_blk hb6 (by rw [bools_length, w1_length, G1.out, hmN]) (Nat.le_refl _) (by unfold maxLen; omega)⟩)
      clear hg5 hb5 hb6 V4 HBK HLW HCS RI4 BL4 k0 k1
      go_wp2_with fail
      go_loopw [81] (fun v81 wx => ∃ q : Nat, q ≤ O.length ∧ v81 = .int .i64 (q : Int) ∧ VW w2 wx (some ⟨w2.heap.size, 0, none⟩) m m (runL P.val NI (O.take q) (P.w1 li ls))) (fun v81 _ => O.length - (intOf v81).toNat)
      case atStart => exact ⟨0, by omega, rfl, V5.out⟩
      case round =>
        clear V5 hz4 T4
        obtain ⟨q, hq, rfl, hV⟩ := hrel
        have V6 := Lib.hid hV
        have T6 := Lib.hid (T2.out.keep hV.below)
        have hz6 := hV.below.size
        clear hV
        by_cases hlt2 : q < O.length
        case neg =>
          obtain rfl : q = O.length := by omega
          rw [List.take_length] at V6
          have hw2 : runL P.val NI O (P.w1 li ls) = P.w2 O li ls := by unfold PK.w2; rw [HNI.out]; rfl
          rw [hw2] at V6
          clear hw2
          obtain ⟨W2, hW2⟩ : ∃ W, P.w2 O li ls = W := ⟨_, rfl⟩
          rw [hW2] at V6
          have HW2 := Lib.hid hW2
          clear hW2
          obtain ⟨k0, k1, k2⟩ := T6.out.cells
          obtain ⟨w3, hw3⟩ : ∃ w3, w3 = wr := ⟨_, rfl⟩
          rw [← hw3] at V6 T6 k0 k1 k2 hz6
          rw [← hw3]
          obtain ⟨f, hf⟩ : ∃ f : Int → Bool, (fun n : Int => W2.getD n.toNat false) = f := ⟨_, rfl⟩
          have HF2 := Lib.hid hf
          clear hf hw3
          have L3 := Lib.hid (Below.refl w3.heap.size w3)
          have ho2 := HF.out.o
          obtain ⟨AO, hAO⟩ : ∃ AO, P.AO = AO := ⟨_, rfl⟩
          rw [hAO] at k2
          have HAO := Lib.hid hAO
          clear hAO
          go_wp2_with fail
          go_loopw [17, 102] (fun v6 v89 wx => ∃ (k : Nat) (A : Option Addr) (c : Nat), k ≤ P.outs.length ∧ v89 = .int .i64 (k : Int) ∧ v6 = .slice A k c ∧ Below w3.heap.size w3 wx ∧ wx.ownsRow w3.heap.size 4 1 (.slice A k c) k (bools ((P.outs.take k).map f))) (fun _ v89 _ => P.outs.length - (intOf v89).toNat)
          case atStart => exact ⟨0, none, 0, by omega, rfl, rfl, L3.out, World.ownsRow_nil _ _ _ _⟩
          case round =>
            clear k0 k1 k2
            obtain ⟨k3, A3, c3, hk3, rfl, rfl, hB, hO⟩ := hrel
            have B3 := Lib.hid hB
            have O3 := Lib.hid hO
            have T9 := Lib.hid (T6.out.keep hB)
            have V9 := Lib.hid (V6.out.keep hB)
            have hz9 := hB.size
            have hl3 := take_map_len f hk3
            clear hB hO
            by_cases hlt3 : k3 < P.outs.length
            case neg =>
              obtain rfl : k3 = P.outs.length := by omega
              rw [List.take_length] at O3
              clear hl3
              obtain ⟨w4, hw4⟩ : ∃ w4, w4 = wr := ⟨_, rfl⟩
              rw [← hw4] at B3 O3 T9 V9 hz9
              rw [← hw4]
              obtain ⟨g, hg⟩ : ∃ g : Nat → Bool, (fun i => P.val i W2) = g := ⟨_, rfl⟩
              have HG2 := Lib.hid hg
              clear hg hw4
              have L4 := Lib.hid (Below.refl w4.heap.size w4)
              have OR := O3
              obtain ⟨k0, k1, k2⟩ := T9.out.cells
              rw [HAB.out] at k1
              go_wp2_with fail
              go_loopw [18, 117] (fun v7 v103 wx => ∃ (j : Nat) (A : Option Addr) (c : Nat), j ≤ P.bs.length ∧ v103 = .int .i64 (j : Int) ∧ v7 = .slice A (flopTo P.bs j).length c ∧ Below w4.heap.size w4 wx ∧ wx.ownsRow w4.heap.size 4 1 (.slice A (flopTo P.bs j).length c) (flopTo P.bs j).length (bools ((flopTo P.bs j).map g))) (fun _ v103 _ => P.bs.length - (intOf v103).toNat)
              case atStart => exact ⟨0, none, 0, by omega, rfl, rfl, L4.out, World.ownsRow_nil _ _ _ _⟩
              case round =>
                clear k0 k1 k2
                obtain ⟨j, A4, c4, hj, rfl, rfl, hB, hO⟩ := hrel
                have B4 := Lib.hid hB
                have O4 := Lib.hid hO
                have T10 := Lib.hid (T9.out.keep hB)
                have V10 := Lib.hid (V9.out.keep hB)
                have hz10 := hB.size
                have hfl := flopTo_len P.bs j
                clear hB hO
                by_cases hlt5 : j < P.bs.length
                case neg =>
                  obtain rfl : j = P.bs.length := by omega
                  have hfe : (flopTo P.bs P.bs.length).length = nF := HNF.out
                  rw [hfe] at O4
                  rw [hfe]
                  have HFE := Lib.hid hfe
                  clear hfe hfl
                  go_wp2_with fail
                  refine bodyPost_ret (results_tmp3 Tryz.results37 _ _ _) rfl ?_
                  exact ⟨A3, c3, P.outs.map f, A4, c4, P.flops.map g, 0, by rw [List.length_map, List.length_map, HNF.out]; rfl, T10.out.below, by rw [List.length_map]; exact own_base_le (own_keep OR.out B4.out) (by omega), by rw [List.length_map, HNF.out]; exact own_base_le O4.out (by omega), .inr (.inr ⟨rfl, HM.out, by rw [HNI.out]; have := G1.out; omega, by rw [HNF.out]; exact G2.out, O, HA.out, by rw [HW2.out, HF2.out], by rw [HW2.out, HG2.out]⟩)⟩
                have hnx := flopTo_next P.bs j
                obtain ⟨a, bA, bc, bl, tn, bff, bit, hAB, c0, c1, c2, c3b, hRl, hl44, hx, htn, hbff, hval⟩ := PK.blockFF (HIN.out.later T10.out.below) HM.out hlt5
                rw [HAB.out] at hAB
                subst hAB
                rw [← hbff] at hnx
                clear hbff
                have hbn := below_new wr (.cells #[.slice bA bl.length bc, .int .i64 (tn : Int), .bool bff, .bool bit] 67)
                have B5 := Lib.hid (below_then B4.out hbn)
                have O5 := Lib.hid (own_keep O4.out hbn)
                cases hb : bff with
                | false =>
                  subst hb
                  have HNX := Lib.hid (show flopTo P.bs (j + 1) = flopTo P.bs j from by rw [hnx]; simp)
                  clear hnx hbn hRl hx hval
                  go_wp2_with fail
                  go_roundw
                  case rel => exact ⟨j + 1, A4, c4, by omega, by go_num, by rw [HNX.out], B5.out, by rw [HNX.out]; exact O5.out⟩
                  case measure => simp [intOf]; omega
                | true =>
                  subst hb
                  have HNX := Lib.hid (show flopTo P.bs (j + 1) = flopTo P.bs j ++ [j] from by rw [hnx]; simp)
                  have hgj : g j = valB bl tn W2 := by rw [← HG2.out]; exact hval W2
                  have HGJ := Lib.hid hgj
                  have hl44' : (flopTo P.bs j).length ≤ 2000 := by omega
                  have hcl := rvalue_any bA bc bl tn true bit (some ⟨w2.heap.size, 0, none⟩) m m W2 _ (hRl.later hbn) (Rd.of_own (own_keep V10.out.own hbn)) hl44 (fun x h => ⟨(hx x h).1, by have := (hx x h).2; unfold PK.N at this; rw [HNI.out] at this; omega⟩) htn (by omega)
                  have HCL := Lib.hid hcl
                  have hz12 : w4.heap.size ≤ (wr.alloc (.cells #[.slice bA bl.length bc, .int .i64 (tn : Int), .bool true, .bool bit] 67)).heap.size := by simp; omega
                  clear hcl hnx hbn hRl hx hval hgj
                  go_wp2_with fail
                  refine HCL.out.mono ?_
                  rintro e w7 ⟨rfl, hb7⟩
                  have B7 := Lib.hid (below_then B5.out hb7)
                  have O7 := Lib.hid (own_keep O5.out hb7)
                  have hz11 := B7.out.size
                  clear hb7
                  generalize valB bl tn W2 = b1 at HGJ
                  go_wp2_with (at_builtin; refine wpList_app_bools rfl (.tmp 123) (.tmp 127) rfl w4.heap.size A4 (flopTo P.bs j).length c4 _ rfl (O7.out.alloc _) (some ⟨w7.heap.size, 0, none⟩) 1 1 [b1] rfl (rd_bool1 w7 _ b1) (by omega) (by simp; omega) ?_)
                  intro A' c' w' hO' hg'
                  have B8 := Lib.hid ((below_then B7.out (below_new w7 (.cells #[.bool b1] 4))).grown hg' (by simp; omega) (fun k hk => own_base O7.out hk))
                  have O8 := Lib.hid hO'
                  clear hO' hg'
                  go_wp2_with fail
                  go_roundw
                  case rel => exact ⟨j + 1, A', c', by omega, by go_num, by rw [HNX.out]; simp, B8.out, by rw [HNX.out, List.map_append, List.length_append]; simp only [List.map_cons, List.map_nil, HGJ.out]; exact O8.out⟩
                  case measure => simp [intOf]; omega
            obtain ⟨a3, ha3, -, cx⟩ := (HIN.out.outs.later T9.out.below).int hlt3
            have hx3 := any_bad_no HM.out.2.2.2.2 _ (List.getElem_mem hlt3)
            have hnx := take_map_next f hlt3
            have hxf : f P.outs[k3] = W2.getD P.outs[k3].toNat false := by rw [← HF2.out]
            rw [HAO.out] at ha3
            subst ha3
            rw [show P.outs.getD k3 0 = P.outs[k3] by rw [List.getD_eq_getElem?_getD, List.getElem?_eq_getElem hlt3]; rfl] at cx
            obtain ⟨xn, hxn⟩ := Int.eq_ofNat_of_zero_le hx3.1
            rw [hxn] at cx hxf hnx hx3
            rw [Int.toNat_natCast] at hxf
            have hxm : xn < m := by have := hx3.2; unfold PK.N at this; rw [HNI.out] at this; omega
            have cW9 := V9.out.cell hxm
            rw [← hxf] at cW9
            generalize f (xn : Int) = b1 at cW9 hnx
            have HNX := Lib.hid hnx
            generalize (P.outs.take k3).map f = L3x at O3 HNX hl3
            have HL3 := Lib.hid hl3
            have B3b := Lib.hid (below_then B3.out (below_new wr (.cells #[.bool b1] 4)))
            clear hxf hnx hx3 hxn hl3
            go_wp2_with (at_builtin; refine wpList_app_bools rfl (.tmp 106) (.tmp 111) rfl w3.heap.size A3 k3 c3 L3x rfl (O3.out.alloc _) (some ⟨wr.heap.size, 0, none⟩) 1 1 [b1] rfl (rd_bool1 wr _ b1) (by omega) (by simp; omega) ?_)
            intro A' c' w' hO' hg'
            have B3c := Lib.hid (B3b.out.grown hg' (by simp; omega) (fun k hk => own_base O3.out hk))
            have O3c := Lib.hid hO'
            clear hO' hg'
            go_wp2_with fail
            go_roundw
            case rel => exact ⟨k3 + 1, A', c', by omega, by go_num, rfl, B3c.out, by rw [HNX.out]; exact O3c.out⟩
            case measure => simp [intOf]; omega
        obtain ⟨aO, haO, -, cO1⟩ := (HRO2.out.later V6.out.below).int hlt2
        subst haO
        rw [natI_getD] at cO1
        have hS := HA.out.mem _ (nat_getD_mem hlt2)
        have hi6 := PK.S_lt hS
        have hrun := runL_take P.val NI O (P.w1 li ls) hlt2
        generalize O.getD q 0 = i at cO1 hS hi6 hrun
        obtain ⟨k0, k1, k2⟩ := T6.out.cells
        rw [HNI.out] at k0
        obtain ⟨a, bA, bc, bl, tn, bff, bit, hAB, c0, c1, c2, c3, hRl, hl4, hx, htn, hab, hval⟩ := PK.blockAt (HIN.out.later T6.out.below) HM.out hi6
        rw [hAB] at k1
        rw [hval] at hrun
        generalize runL P.val NI (O.take q) (P.w1 li ls) = Wq at V6 hrun
        have hcl := fun W (hB : Below wr.heap.size wr W) => rvalue_any bA bc bl tn bff bit (some ⟨w2.heap.size, 0, none⟩) m m Wq W (hRl.later hB) ((Rd.of_own V6.out.own).later hB) hl4 (fun x h => ⟨(hx x h).1, by have := (hx x h).2; unfold PK.N at this; rw [HNI.out] at this; omega⟩) htn (by omega)
        have HCL6 := Lib.hid hcl
        have HRUN := Lib.hid hrun
        have AB6 := Lib.hid hAB
        have hfm : NI + i < m := by omega
        have hix : (NI : Int) + (i : Int) < (m : Int) := by omega
        have hto : ((NI : Int) + (i : Int)).toNat = NI + i := by omega
        have hix0 : 0 ≤ (NI : Int) + (i : Int) := by omega
        have hwr : IntKind.i64.wrap ((NI : Int) + (i : Int)) = (NI : Int) + (i : Int) := IntWalk.i64_in _ (by omega)
        have HRL := Lib.hid hRl
        clear hcl hrun hAB hRl hx htn hval hS
        go_wp2_with fail
        refine wp_region_held_drew (S := (fun _ => True)) (by kernel_rfl) ?_ (fun hHeld => ?_)
        · trivial
        refine wpAnyH_take (i := 0) (oi := { dst := some 85, op := Op.move (Operand.tmp 11), type := 25, pos := _, after := #[], guard := none }) (v := ?_) rfl (by kernel_rfl) (by kernel_rfl) (by kernel_rfl) (fun _ _ _ h => h) (Or.inl ⟨by rfl, ?_⟩) (by assumption) ?_
        rotate_left
        · intro w hSw; (try dsimp only at hSw); go_simp; (try with_reducible rfl)
        try simp only [Act.put, List.setIfInBounds_toArray, List.set_cons_zero, List.set_cons_succ]
        refine wpAnyH_take (i := 1) (oi := { dst := some 86, op := Op.fieldAddr 33 (Operand.tmp 3) 0, type := 0, pos := _, after := #[], guard := none }) (v := ?_) rfl (by kernel_rfl) (by kernel_rfl) (by kernel_rfl) (fun _ _ _ h => h) (Or.inl ⟨by rfl, ?_⟩) (by assumption) ?_
        rotate_left
        · intro w hSw; (try dsimp only at hSw); go_simp; (try with_reducible rfl)
        try simp only [Act.put, List.setIfInBounds_toArray, List.set_cons_zero, List.set_cons_succ]
        refine wpAnyH_take (i := 3) (oi := { dst := some 88, op := Op.move (Operand.tmp 16), type := 3, pos := _, after := #[], guard := none }) (v := ?_) rfl (by kernel_rfl) (by kernel_rfl) (by kernel_rfl) (fun _ _ _ h => h) (Or.inl ⟨by rfl, ?_⟩) (by assumption) ?_
        rotate_left
        · intro w hSw; (try dsimp only at hSw); go_simp; (try with_reducible rfl)
        try simp only [Act.put, List.setIfInBounds_toArray, List.set_cons_zero, List.set_cons_succ]
        refine wpAnyH_take (i := 5) (oi := { dst := some 90, op := Op.fieldAddr 33 (Operand.tmp 3) 1, type := 0, pos := _, after := #[], guard := none }) (v := ?_) rfl (by kernel_rfl) (by kernel_rfl) (by kernel_rfl) (fun _ _ _ h => h) (Or.inl ⟨by rfl, ?_⟩) (by assumption) ?_
        rotate_left
        · intro w hSw; (try dsimp only at hSw); go_simp; (try with_reducible rfl)
        try simp only [Act.put, List.setIfInBounds_toArray, List.set_cons_zero, List.set_cons_succ]
        refine wpAnyH_take (i := 7) (oi := { dst := some 92, op := Op.move (Operand.tmp 16), type := 3, pos := _, after := #[], guard := none }) (v := ?_) rfl (by kernel_rfl) (by kernel_rfl) (by kernel_rfl) (fun _ _ _ h => h) (Or.inl ⟨by rfl, ?_⟩) (by assumption) ?_
        rotate_left
        · intro w hSw; (try dsimp only at hSw); go_simp; (try with_reducible rfl)
        try simp only [Act.put, List.setIfInBounds_toArray, List.set_cons_zero, List.set_cons_succ]
        refine wpAnyH_take (i := 10) (oi := { dst := some 95, op := Op.move (Operand.tmp 11), type := 25, pos := _, after := #[], guard := none }) (v := ?_) rfl (by kernel_rfl) (by kernel_rfl) (by kernel_rfl) (fun _ _ _ h => h) (Or.inl ⟨by rfl, ?_⟩) (by assumption) ?_
        rotate_left
        · intro w hSw; (try dsimp only at hSw); go_simp; (try with_reducible rfl)
        try simp only [Act.put, List.setIfInBounds_toArray, List.set_cons_zero, List.set_cons_succ]
        refine wpAnyH_ready (rs := [2, 6]) (by kernel_rfl) (by simp) ?_
        refine AllReadyH.cons (o := { dst := some 87, op := Op.load 3 (Operand.tmp 86), type := 3, pos := _, after := #[{ on := 1, ground := Ground.data }], guard := none }) rfl (fun K hK => ?_) (AllReadyH.cons (o := { dst := some 91, op := Op.load 31 (Operand.tmp 90), type := 31, pos := _, after := #[{ on := 5, ground := Ground.data }], guard := none }) rfl (fun K hK => ?_) AllReadyH.nil)
        · skip
          go_simp
          refine hK.out _ _ ?_ (fun hHeld => ?_)
          · trivial
          clear hK K
          try simp only [Act.put, List.setIfInBounds_toArray, List.set_cons_zero, List.set_cons_succ]
          refine wpAnyH_take (i := 4) (oi := { dst := some 89, op := Op.binOp BinOp.add 3 (Operand.tmp 87) (Operand.tmp 88) 3, type := 3, pos := _, after := #[{ on := 2, ground := Ground.data }, { on := 3, ground := Ground.data }], guard := none }) (v := ?_) rfl (by kernel_rfl) (by kernel_rfl) (by kernel_rfl) (fun _ _ _ h => h) (Or.inl ⟨by rfl, ?_⟩) (by assumption) ?_
          rotate_left
          · intro w hSw; (try dsimp only at hSw); go_simp; (try with_reducible rfl)
          try simp only [Act.put, List.setIfInBounds_toArray, List.set_cons_zero, List.set_cons_succ]
          refine wpAnyH_ready (rs := [6]) (by kernel_rfl) (by simp) ?_
          refine AllReadyH.cons (o := { dst := some 91, op := Op.load 31 (Operand.tmp 90), type := 31, pos := _, after := #[{ on := 5, ground := Ground.data }], guard := none }) rfl (fun K hK => ?_) AllReadyH.nil
          go_simp
          refine hK.out _ _ ?_ (fun hHeld => ?_)
          · trivial
          clear hK K
          try simp only [Act.put, List.setIfInBounds_toArray, List.set_cons_zero, List.set_cons_succ]
          refine wpAnyH_take (i := 8) (oi := { dst := some 93, op := Op.indexAddr 31 (Operand.tmp 91) (Operand.tmp 92), type := 0, pos := _, after := #[{ on := 6, ground := Ground.data }, { on := 7, ground := Ground.data }], guard := none }) (v := ?_) rfl (by kernel_rfl) (by kernel_rfl) (by kernel_rfl) (fun _ _ _ h => h) (Or.inl ⟨by rfl, ?_⟩) (by assumption) ?_
          rotate_left
          · intro w hSw; (try dsimp only at hSw); go_simp; (try with_reducible rfl)
          try simp only [Act.put, List.setIfInBounds_toArray, List.set_cons_zero, List.set_cons_succ]
          refine wpAnyH_ready (rs := [9]) (by kernel_rfl) (by simp) ?_
          refine AllReadyH.cons (o := { dst := some 94, op := Op.load 67 (Operand.tmp 93), type := 67, pos := _, after := #[{ on := 8, ground := Ground.data }], guard := none }) rfl (fun K hK => ?_) AllReadyH.nil
          go_simp
          refine hK.out _ _ ?_ (fun hHeld => ?_)
          · trivial
          clear hK K
          try simp only [Act.put, List.setIfInBounds_toArray, List.set_cons_zero, List.set_cons_succ]
          refine wpAnyH_ready (rs := [11]) (by kernel_rfl) (by simp) ?_
          refine AllReadyH.cons (o := { dst := some 96, op := Op.call { callee := Callee.value (Operand.func 71), args := #[Operand.tmp 94, Operand.tmp 95], argTypes := #[67, 25] }, type := 4, pos := _, after := #[{ on := 9, ground := Ground.data }, { on := 10, ground := Ground.data }], guard := none }) rfl (fun K hK => ?_) AllReadyH.nil
          go_simp
          with_reducible refine (HCL6.out _ ?_).mono ?_
          · exact below_drewN (Below.refl _ _) 1
          rintro e w7 ⟨rfl, hb7⟩
          have hb7 := below_of_drew hb7
          have T7 := Lib.hid (T6.out.keep hb7)
          have V7 := Lib.hid (V6.out.keep hb7)
          obtain ⟨j0, j1, j2⟩ := T7.out.cells
          rw [HNI.out] at j0
          have cW7 := V7.out.cell hfm
          have fW7 := V7.out.own.frozenAt (NI + i)
          have hz7 := V7.out.below.size
          clear hb7
          refine hK.out _ _ ?_ (fun hHeld => ?_)
          · trivial
          clear hK K
          try simp only [Act.put, List.setIfInBounds_toArray, List.set_cons_zero, List.set_cons_succ]
          refine wpAnyH_ready (rs := [12]) (by kernel_rfl) (by simp) ?_
          refine AllReadyH.cons (o := { dst := some 97, op := Op.indexAddr 25 (Operand.tmp 85) (Operand.tmp 89), type := 0, pos := _, after := #[{ on := 0, ground := Ground.data }, { on := 4, ground := Ground.data }, { on := 0, ground := Ground.phase }, { on := 1, ground := Ground.phase }, { on := 2, ground := Ground.phase }, { on := 3, ground := Ground.phase }, { on := 4, ground := Ground.phase }, { on := 5, ground := Ground.phase }, { on := 6, ground := Ground.phase }, { on := 7, ground := Ground.phase }, { on := 8, ground := Ground.phase }, { on := 9, ground := Ground.phase }, { on := 10, ground := Ground.phase }, { on := 11, ground := Ground.phase }], guard := none }) rfl (fun K hK => ?_) AllReadyH.nil
          go_simp
          refine hK.out _ _ ?_ (fun hHeld => ?_)
          · trivial
          clear hK K
          try simp only [Act.put, List.setIfInBounds_toArray, List.set_cons_zero, List.set_cons_succ]
          refine wpAnyH_ready (rs := [13]) (by kernel_rfl) (by simp) ?_
          refine AllReadyH.cons (o := { dst := none, op := Op.store 4 (Operand.tmp 97) (Operand.tmp 96), type := 0, pos := _, after := #[{ on := 12, ground := Ground.data }, { on := 11, ground := Ground.data }, { on := 11, ground := Ground.chain }, { on := 0, ground := Ground.phase }, { on := 1, ground := Ground.phase }, { on := 2, ground := Ground.phase }, { on := 3, ground := Ground.phase }, { on := 4, ground := Ground.phase }, { on := 5, ground := Ground.phase }, { on := 6, ground := Ground.phase }, { on := 7, ground := Ground.phase }, { on := 8, ground := Ground.phase }, { on := 9, ground := Ground.phase }, { on := 10, ground := Ground.phase }, { on := 11, ground := Ground.phase }], guard := none }) rfl (fun K hK => ?_) AllReadyH.nil
          go_simp
          refine hK.out _ _ ?_ (fun hHeld => ?_)
          · trivial
          clear hK K
          try simp only [Act.put, List.setIfInBounds_toArray, List.set_cons_zero, List.set_cons_succ]
          refine wpAnyH_done (by kernel_rfl) ?_ _
          clear hHeld
          have V8 := V7.out.set (NI + i) (valB bl tn Wq)
          rw [← HRUN.out] at V8
          have V8 := Lib.hid V8
          go_wp2_with fail
          go_roundw
          case rel => exact ⟨q + 1, by omega, by go_num, V8.out⟩
          case measure => simp [intOf]; omega
        · skip
          go_simp
          refine hK.out _ _ ?_ (fun hHeld => ?_)
          · trivial
          clear hK K
          try simp only [Act.put, List.setIfInBounds_toArray, List.set_cons_zero, List.set_cons_succ]
          refine wpAnyH_take (i := 8) (oi := { dst := some 93, op := Op.indexAddr 31 (Operand.tmp 91) (Operand.tmp 92), type := 0, pos := _, after := #[{ on := 6, ground := Ground.data }, { on := 7, ground := Ground.data }], guard := none }) (v := ?_) rfl (by kernel_rfl) (by kernel_rfl) (by kernel_rfl) (fun _ _ _ h => h) (Or.inl ⟨by rfl, ?_⟩) (by assumption) ?_
          rotate_left
          · intro w hSw; (try dsimp only at hSw); go_simp; (try with_reducible rfl)
          try simp only [Act.put, List.setIfInBounds_toArray, List.set_cons_zero, List.set_cons_succ]
          refine wpAnyH_ready (rs := [2, 9]) (by kernel_rfl) (by simp) ?_
          refine AllReadyH.cons (o := { dst := some 87, op := Op.load 3 (Operand.tmp 86), type := 3, pos := _, after := #[{ on := 1, ground := Ground.data }], guard := none }) rfl (fun K hK => ?_) (AllReadyH.cons (o := { dst := some 94, op := Op.load 67 (Operand.tmp 93), type := 67, pos := _, after := #[{ on := 8, ground := Ground.data }], guard := none }) rfl (fun K hK => ?_) AllReadyH.nil)
          · skip
            go_simp
            refine hK.out _ _ ?_ (fun hHeld => ?_)
            · trivial
            clear hK K
            try simp only [Act.put, List.setIfInBounds_toArray, List.set_cons_zero, List.set_cons_succ]
            refine wpAnyH_take (i := 4) (oi := { dst := some 89, op := Op.binOp BinOp.add 3 (Operand.tmp 87) (Operand.tmp 88) 3, type := 3, pos := _, after := #[{ on := 2, ground := Ground.data }, { on := 3, ground := Ground.data }], guard := none }) (v := ?_) rfl (by kernel_rfl) (by kernel_rfl) (by kernel_rfl) (fun _ _ _ h => h) (Or.inl ⟨by rfl, ?_⟩) (by assumption) ?_
            rotate_left
            · intro w hSw; (try dsimp only at hSw); go_simp; (try with_reducible rfl)
            try simp only [Act.put, List.setIfInBounds_toArray, List.set_cons_zero, List.set_cons_succ]
            refine wpAnyH_ready (rs := [9]) (by kernel_rfl) (by simp) ?_
            refine AllReadyH.cons (o := { dst := some 94, op := Op.load 67 (Operand.tmp 93), type := 67, pos := _, after := #[{ on := 8, ground := Ground.data }], guard := none }) rfl (fun K hK => ?_) AllReadyH.nil
            go_simp
            refine hK.out _ _ ?_ (fun hHeld => ?_)
            · trivial
            clear hK K
            try simp only [Act.put, List.setIfInBounds_toArray, List.set_cons_zero, List.set_cons_succ]
            refine wpAnyH_ready (rs := [11]) (by kernel_rfl) (by simp) ?_
            refine AllReadyH.cons (o := { dst := some 96, op := Op.call { callee := Callee.value (Operand.func 71), args := #[Operand.tmp 94, Operand.tmp 95], argTypes := #[67, 25] }, type := 4, pos := _, after := #[{ on := 9, ground := Ground.data }, { on := 10, ground := Ground.data }], guard := none }) rfl (fun K hK => ?_) AllReadyH.nil
            go_simp
            with_reducible refine (HCL6.out _ ?_).mono ?_
            · exact below_drewN (Below.refl _ _) 1
            rintro e w7 ⟨rfl, hb7⟩
            have hb7 := below_of_drew hb7
            have T7 := Lib.hid (T6.out.keep hb7)
            have V7 := Lib.hid (V6.out.keep hb7)
            obtain ⟨j0, j1, j2⟩ := T7.out.cells
            rw [HNI.out] at j0
            have cW7 := V7.out.cell hfm
            have fW7 := V7.out.own.frozenAt (NI + i)
            have hz7 := V7.out.below.size
            clear hb7
            refine hK.out _ _ ?_ (fun hHeld => ?_)
            · trivial
            clear hK K
            try simp only [Act.put, List.setIfInBounds_toArray, List.set_cons_zero, List.set_cons_succ]
            refine wpAnyH_ready (rs := [12]) (by kernel_rfl) (by simp) ?_
            refine AllReadyH.cons (o := { dst := some 97, op := Op.indexAddr 25 (Operand.tmp 85) (Operand.tmp 89), type := 0, pos := _, after := #[{ on := 0, ground := Ground.data }, { on := 4, ground := Ground.data }, { on := 0, ground := Ground.phase }, { on := 1, ground := Ground.phase }, { on := 2, ground := Ground.phase }, { on := 3, ground := Ground.phase }, { on := 4, ground := Ground.phase }, { on := 5, ground := Ground.phase }, { on := 6, ground := Ground.phase }, { on := 7, ground := Ground.phase }, { on := 8, ground := Ground.phase }, { on := 9, ground := Ground.phase }, { on := 10, ground := Ground.phase }, { on := 11, ground := Ground.phase }], guard := none }) rfl (fun K hK => ?_) AllReadyH.nil
            go_simp
            refine hK.out _ _ ?_ (fun hHeld => ?_)
            · trivial
            clear hK K
            try simp only [Act.put, List.setIfInBounds_toArray, List.set_cons_zero, List.set_cons_succ]
            refine wpAnyH_ready (rs := [13]) (by kernel_rfl) (by simp) ?_
            refine AllReadyH.cons (o := { dst := none, op := Op.store 4 (Operand.tmp 97) (Operand.tmp 96), type := 0, pos := _, after := #[{ on := 12, ground := Ground.data }, { on := 11, ground := Ground.data }, { on := 11, ground := Ground.chain }, { on := 0, ground := Ground.phase }, { on := 1, ground := Ground.phase }, { on := 2, ground := Ground.phase }, { on := 3, ground := Ground.phase }, { on := 4, ground := Ground.phase }, { on := 5, ground := Ground.phase }, { on := 6, ground := Ground.phase }, { on := 7, ground := Ground.phase }, { on := 8, ground := Ground.phase }, { on := 9, ground := Ground.phase }, { on := 10, ground := Ground.phase }, { on := 11, ground := Ground.phase }], guard := none }) rfl (fun K hK => ?_) AllReadyH.nil
            go_simp
            refine hK.out _ _ ?_ (fun hHeld => ?_)
            · trivial
            clear hK K
            try simp only [Act.put, List.setIfInBounds_toArray, List.set_cons_zero, List.set_cons_succ]
            refine wpAnyH_done (by kernel_rfl) ?_ _
            clear hHeld
            have V8 := V7.out.set (NI + i) (valB bl tn Wq)
            rw [← HRUN.out] at V8
            have V8 := Lib.hid V8
            go_wp2_with fail
            go_roundw
            case rel => exact ⟨q + 1, by omega, by go_num, V8.out⟩
            case measure => simp [intOf]; omega
          · skip
            go_simp
            refine hK.out _ _ ?_ (fun hHeld => ?_)
            · trivial
            clear hK K
            try simp only [Act.put, List.setIfInBounds_toArray, List.set_cons_zero, List.set_cons_succ]
            refine wpAnyH_ready (rs := [2, 11]) (by kernel_rfl) (by simp) ?_
            refine AllReadyH.cons (o := { dst := some 87, op := Op.load 3 (Operand.tmp 86), type := 3, pos := _, after := #[{ on := 1, ground := Ground.data }], guard := none }) rfl (fun K hK => ?_) (AllReadyH.cons (o := { dst := some 96, op := Op.call { callee := Callee.value (Operand.func 71), args := #[Operand.tmp 94, Operand.tmp 95], argTypes := #[67, 25] }, type := 4, pos := _, after := #[{ on := 9, ground := Ground.data }, { on := 10, ground := Ground.data }], guard := none }) rfl (fun K hK => ?_) AllReadyH.nil)
            · skip
              go_simp
              refine hK.out _ _ ?_ (fun hHeld => ?_)
              · trivial
              clear hK K
              try simp only [Act.put, List.setIfInBounds_toArray, List.set_cons_zero, List.set_cons_succ]
              refine wpAnyH_take (i := 4) (oi := { dst := some 89, op := Op.binOp BinOp.add 3 (Operand.tmp 87) (Operand.tmp 88) 3, type := 3, pos := _, after := #[{ on := 2, ground := Ground.data }, { on := 3, ground := Ground.data }], guard := none }) (v := ?_) rfl (by kernel_rfl) (by kernel_rfl) (by kernel_rfl) (fun _ _ _ h => h) (Or.inl ⟨by rfl, ?_⟩) (by assumption) ?_
              rotate_left
              · intro w hSw; (try dsimp only at hSw); go_simp; (try with_reducible rfl)
              try simp only [Act.put, List.setIfInBounds_toArray, List.set_cons_zero, List.set_cons_succ]
              refine wpAnyH_ready (rs := [11]) (by kernel_rfl) (by simp) ?_
              refine AllReadyH.cons (o := { dst := some 96, op := Op.call { callee := Callee.value (Operand.func 71), args := #[Operand.tmp 94, Operand.tmp 95], argTypes := #[67, 25] }, type := 4, pos := _, after := #[{ on := 9, ground := Ground.data }, { on := 10, ground := Ground.data }], guard := none }) rfl (fun K hK => ?_) AllReadyH.nil
              go_simp
              with_reducible refine (HCL6.out _ ?_).mono ?_
              · exact below_drewN (Below.refl _ _) 1
              rintro e w7 ⟨rfl, hb7⟩
              have hb7 := below_of_drew hb7
              have T7 := Lib.hid (T6.out.keep hb7)
              have V7 := Lib.hid (V6.out.keep hb7)
              obtain ⟨j0, j1, j2⟩ := T7.out.cells
              rw [HNI.out] at j0
              have cW7 := V7.out.cell hfm
              have fW7 := V7.out.own.frozenAt (NI + i)
              have hz7 := V7.out.below.size
              clear hb7
              refine hK.out _ _ ?_ (fun hHeld => ?_)
              · trivial
              clear hK K
              try simp only [Act.put, List.setIfInBounds_toArray, List.set_cons_zero, List.set_cons_succ]
              refine wpAnyH_ready (rs := [12]) (by kernel_rfl) (by simp) ?_
              refine AllReadyH.cons (o := { dst := some 97, op := Op.indexAddr 25 (Operand.tmp 85) (Operand.tmp 89), type := 0, pos := _, after := #[{ on := 0, ground := Ground.data }, { on := 4, ground := Ground.data }, { on := 0, ground := Ground.phase }, { on := 1, ground := Ground.phase }, { on := 2, ground := Ground.phase }, { on := 3, ground := Ground.phase }, { on := 4, ground := Ground.phase }, { on := 5, ground := Ground.phase }, { on := 6, ground := Ground.phase }, { on := 7, ground := Ground.phase }, { on := 8, ground := Ground.phase }, { on := 9, ground := Ground.phase }, { on := 10, ground := Ground.phase }, { on := 11, ground := Ground.phase }], guard := none }) rfl (fun K hK => ?_) AllReadyH.nil
              go_simp
              refine hK.out _ _ ?_ (fun hHeld => ?_)
              · trivial
              clear hK K
              try simp only [Act.put, List.setIfInBounds_toArray, List.set_cons_zero, List.set_cons_succ]
              refine wpAnyH_ready (rs := [13]) (by kernel_rfl) (by simp) ?_
              refine AllReadyH.cons (o := { dst := none, op := Op.store 4 (Operand.tmp 97) (Operand.tmp 96), type := 0, pos := _, after := #[{ on := 12, ground := Ground.data }, { on := 11, ground := Ground.data }, { on := 11, ground := Ground.chain }, { on := 0, ground := Ground.phase }, { on := 1, ground := Ground.phase }, { on := 2, ground := Ground.phase }, { on := 3, ground := Ground.phase }, { on := 4, ground := Ground.phase }, { on := 5, ground := Ground.phase }, { on := 6, ground := Ground.phase }, { on := 7, ground := Ground.phase }, { on := 8, ground := Ground.phase }, { on := 9, ground := Ground.phase }, { on := 10, ground := Ground.phase }, { on := 11, ground := Ground.phase }], guard := none }) rfl (fun K hK => ?_) AllReadyH.nil
              go_simp
              refine hK.out _ _ ?_ (fun hHeld => ?_)
              · trivial
              clear hK K
              try simp only [Act.put, List.setIfInBounds_toArray, List.set_cons_zero, List.set_cons_succ]
              refine wpAnyH_done (by kernel_rfl) ?_ _
              clear hHeld
              have V8 := V7.out.set (NI + i) (valB bl tn Wq)
              rw [← HRUN.out] at V8
              have V8 := Lib.hid V8
              go_wp2_with fail
              go_roundw
              case rel => exact ⟨q + 1, by omega, by go_num, V8.out⟩
              case measure => simp [intOf]; omega
            · skip
              go_simp
              with_reducible refine (HCL6.out _ ?_).mono ?_
              · exact below_drewN (Below.refl _ _) 1
              rintro e w7 ⟨rfl, hb7⟩
              have hb7 := below_of_drew hb7
              have T7 := Lib.hid (T6.out.keep hb7)
              have V7 := Lib.hid (V6.out.keep hb7)
              obtain ⟨j0, j1, j2⟩ := T7.out.cells
              rw [HNI.out] at j0
              have cW7 := V7.out.cell hfm
              have fW7 := V7.out.own.frozenAt (NI + i)
              have hz7 := V7.out.below.size
              clear hb7
              refine hK.out _ _ ?_ (fun hHeld => ?_)
              · trivial
              clear hK K
              try simp only [Act.put, List.setIfInBounds_toArray, List.set_cons_zero, List.set_cons_succ]
              refine wpAnyH_ready (rs := [2]) (by kernel_rfl) (by simp) ?_
              refine AllReadyH.cons (o := { dst := some 87, op := Op.load 3 (Operand.tmp 86), type := 3, pos := _, after := #[{ on := 1, ground := Ground.data }], guard := none }) rfl (fun K hK => ?_) AllReadyH.nil
              go_simp
              refine hK.out _ _ ?_ (fun hHeld => ?_)
              · trivial
              clear hK K
              try simp only [Act.put, List.setIfInBounds_toArray, List.set_cons_zero, List.set_cons_succ]
              refine wpAnyH_take (i := 4) (oi := { dst := some 89, op := Op.binOp BinOp.add 3 (Operand.tmp 87) (Operand.tmp 88) 3, type := 3, pos := _, after := #[{ on := 2, ground := Ground.data }, { on := 3, ground := Ground.data }], guard := none }) (v := ?_) rfl (by kernel_rfl) (by kernel_rfl) (by kernel_rfl) (fun _ _ _ h => h) (Or.inl ⟨by rfl, ?_⟩) (by assumption) ?_
              rotate_left
              · intro w hSw; (try dsimp only at hSw); go_simp; (try with_reducible rfl)
              try simp only [Act.put, List.setIfInBounds_toArray, List.set_cons_zero, List.set_cons_succ]
              refine wpAnyH_ready (rs := [12]) (by kernel_rfl) (by simp) ?_
              refine AllReadyH.cons (o := { dst := some 97, op := Op.indexAddr 25 (Operand.tmp 85) (Operand.tmp 89), type := 0, pos := _, after := #[{ on := 0, ground := Ground.data }, { on := 4, ground := Ground.data }, { on := 0, ground := Ground.phase }, { on := 1, ground := Ground.phase }, { on := 2, ground := Ground.phase }, { on := 3, ground := Ground.phase }, { on := 4, ground := Ground.phase }, { on := 5, ground := Ground.phase }, { on := 6, ground := Ground.phase }, { on := 7, ground := Ground.phase }, { on := 8, ground := Ground.phase }, { on := 9, ground := Ground.phase }, { on := 10, ground := Ground.phase }, { on := 11, ground := Ground.phase }], guard := none }) rfl (fun K hK => ?_) AllReadyH.nil
              go_simp
              refine hK.out _ _ ?_ (fun hHeld => ?_)
              · trivial
              clear hK K
              try simp only [Act.put, List.setIfInBounds_toArray, List.set_cons_zero, List.set_cons_succ]
              refine wpAnyH_ready (rs := [13]) (by kernel_rfl) (by simp) ?_
              refine AllReadyH.cons (o := { dst := none, op := Op.store 4 (Operand.tmp 97) (Operand.tmp 96), type := 0, pos := _, after := #[{ on := 12, ground := Ground.data }, { on := 11, ground := Ground.data }, { on := 11, ground := Ground.chain }, { on := 0, ground := Ground.phase }, { on := 1, ground := Ground.phase }, { on := 2, ground := Ground.phase }, { on := 3, ground := Ground.phase }, { on := 4, ground := Ground.phase }, { on := 5, ground := Ground.phase }, { on := 6, ground := Ground.phase }, { on := 7, ground := Ground.phase }, { on := 8, ground := Ground.phase }, { on := 9, ground := Ground.phase }, { on := 10, ground := Ground.phase }, { on := 11, ground := Ground.phase }], guard := none }) rfl (fun K hK => ?_) AllReadyH.nil
              go_simp
              refine hK.out _ _ ?_ (fun hHeld => ?_)
              · trivial
              clear hK K
              try simp only [Act.put, List.setIfInBounds_toArray, List.set_cons_zero, List.set_cons_succ]
              refine wpAnyH_done (by kernel_rfl) ?_ _
              clear hHeld
              have V8 := V7.out.set (NI + i) (valB bl tn Wq)
              rw [← HRUN.out] at V8
              have V8 := Lib.hid V8
              go_wp2_with fail
              go_roundw
              case rel => exact ⟨q + 1, by omega, by go_num, V8.out⟩
              case measure => simp [intOf]; omega
    have hnx := flopTo_next P.bs k
    obtain ⟨a, b, hA, hff, -, c0, c1, c2, c3⟩ := may_block (HIN.out.later T4.out.below) hlt
    rw [HAB.out] at hA
    subst hA
    have hbn := below_new wr (.cells #[.slice b.A b.l.length b.c, .int .i64 b.t, .bool b.ff, .bool b.it] 67)
    have T5 := Lib.hid (T4.out.keep hbn)
    have V5 := Lib.hid (V4.out.keep hbn)
    clear hbn
    rw [← hff] at hnx
    cases hb : b.ff with
    | false =>
      rw [hb] at c2 T5 V5 hnx
      have HN1 := Lib.hid (show flopTo P.bs (k + 1) = flopTo P.bs k from by rw [hnx]; simp)
      clear hb hnx hff
      go_wp2_with fail
      go_roundw
      case rel => exact ⟨k + 1, by omega, by go_num, by rw [HN1.out], by rw [HN1.out]; exact V5.out⟩
      case measure => simp [intOf]; omega
    | true =>
      rw [hb] at c2 T5 V5 hnx hff
      have HN1 := Lib.hid (show flopTo P.bs (k + 1) = flopTo P.bs k ++ [k] from by rw [hnx]; simp)
      have hn1 : (flopTo P.bs (k + 1)).length = (flopTo P.bs k).length + 1 := by rw [HN1.out]; simp
      have HNL := Lib.hid hn1
      obtain ⟨fk, hfk⟩ : ∃ fk, (flopTo P.bs k).length = fk := ⟨_, rfl⟩
      have HFK := Lib.hid hfk
      clear hb hnx hn1
      by_cases hl : fk < ls.length
      · have hst := st_next hlt hff.symm NI ls (List.replicate m false) (by rw [hfk]; exact hl)
        obtain ⟨aS, haS, -, cS1⟩ := (HRS.out.later T5.out.below).bool (k := fk) hl
        subst haS
        rw [hfk] at hst hfl
        rw [hfk] at V5
        rw [hfk]
        have hfm : NI + k < m := by omega
        have cW1 := V5.out.cell hfm
        have fW1 := V5.out.own.frozenAt (NI + k)
        generalize ls.getD fk false = b1 at cS1 hst
        have V6 := Lib.hid (V5.out.set (NI + k) b1)
        rw [← hst] at V6
        clear hst hff hfk
        generalize stTo NI P.flops ls (List.replicate m false) (min fk ls.length) = Wk at cW1 V5
        obtain ⟨j0, j1, j2⟩ := T5.out.cells
        rw [HNI.out] at j0
        have hl' : (fk : Int) < (ls.length : Int) := by omega
        have hix : (NI : Int) + (k : Int) < (m : Int) := by omega
        have hto : ((NI : Int) + (k : Int)).toNat = NI + k := by omega
        go_wp2_with fail
        go_region
        go_wp2_with fail
        go_roundw
        case rel => exact ⟨k + 1, by omega, by go_num, by rw [HNL.out, HFK.out]; go_num, V6.out.drew 1⟩
        case measure => simp [intOf]; omega
      · have hmm : min (flopTo P.bs (k + 1)).length ls.length = min (flopTo P.bs k).length ls.length := by rw [HNL.out, hfk]; omega
        have HMM := Lib.hid hmm
        rw [hfk] at hfl
        rw [hfk]
        clear hmm hff hfk
        have hl' : ¬ (fk : Int) < (ls.length : Int) := by omega
        go_wp2_with fail
        go_roundw
        case rel => exact ⟨k + 1, by omega, by go_num, by rw [HNL.out, HFK.out]; go_num, by rw [HMM.out]; exact V5.out⟩
        case measure => simp [intOf]; omega
theorem reval_any (P : PK) (IA : Option Addr) (cI : Nat) (li : List Bool) (SA : Option Addr) (cS : Nat) (ls : List Bool) (w : World) (hin : P.In w) (hf : P.fit)
    (hri : Rd w 1 IA li.length cI (bools li)) (hrs : Rd w 1 SA ls.length cS (bools ls)) (hli : li.length ≤ 100000) (hls : ls.length ≤ 100000) : REVAL P IA cI li SA cS ls w (EvalOut P li ls w) := by
  by_cases h : P.may ∧ ∃ m, All (depE P.E) P.S m
  · exact reval_yes P IA cI li SA cS ls w hin hf h.1 h.2 hri hrs hli hls
  · exact reval_no P IA cI li SA cS ls w hin hf h
end Go.Proofs.YtoloaecbfglaeaaGreat

namespace Go.Proofs.YtoloaecbfglaeaaGreat
open Go.RowKit Topo
set_option linter.unusedVariables false
set_option linter.unusedSimpArgs false

/-- WHAT THE DOCUMENT's Run HOLDS -/
structure RRW (w wx : World) (P : PK) (oA : Option Addr) (oc : Nat) (R : List BR) (A : Option Addr) (c : Nat) (st : List Bool) : Prop where
  below : Below w.heap.size w wx
  box : Blk wx w.heap.size 33 #[.int .i64 P.I, .slice P.AB P.bs.length P.cB, .slice P.AO P.outs.length P.cO]
  out : wx.ownsRow (w.heap.size + 1) 25 1 (.slice oA R.length oc) R.length (R.map BR.v)
  st : wx.ownsRow w.heap.size 4 1 (.slice A st.length c) st.length (bools st)
  each : ∀ b ∈ R, wx.ownsRow w.heap.size 4 1 b.v b.l.length (bools b.l)
section
variable {w wx wy : World} {P : PK} {oA : Option Addr} {oc : Nat} {R : List BR} {A : Option Addr} {c : Nat} {st : List Bool}
theorem RRW.keep (h : RRW w wx P oA oc R A c st) (hb : Below wx.heap.size wx wy) : RRW w wy P oA oc R A c st := ⟨below_then h.below hb, h.box.keep hb, own_keep h.out hb, own_keep h.st hb, fun b hm => own_keep (h.each b hm) hb⟩
theorem row_apart {base base2 : Nat} {v u : Value} {n m : Nat} {xs ys : List Value} (h : wx.ownsRow base 4 1 v n xs) (k : wx.ownsRow base2 25 1 u m ys) : v.ownBlock = none ∨ v.ownBlock ≠ u.ownBlock := by
  cases hu : u.ownBlock with
  | none => cases hv : v.ownBlock with
    | none => exact .inl rfl
    | some g => exact .inr (by simp)
  | some g =>
    obtain ⟨cs, hg⟩ := own_int k hu
    exact .inr (own_other h hg (by decide))
theorem RRW.add (h : RRW w wx P oA oc R A c st) {b : BR} (hb : wx.ownsRow w.heap.size 4 1 b.v b.l.length (bools b.l)) {A' : Option Addr} {c' : Nat} {st' : List Bool} (hs : wx.ownsRow w.heap.size 4 1 (.slice A' st'.length c') st'.length (bools st'))
    {qA : Option Addr} {qc : Nat} (hr : wy.ownsRow (w.heap.size + 1) 25 1 (.slice qA (R.length + 1) qc) (R.length + 1) (R.map BR.v ++ [b.v])) (hg : wx.grownBy wy (Value.slice oA R.length oc).ownBlock) :
    RRW w wy P qA qc (R ++ [b]) A' c' st' := by
  have hlo : ∀ k, (Value.slice oA R.length oc).ownBlock = some k → w.heap.size + 1 ≤ k := fun k hk => own_base h.out hk
  refine ⟨h.below.grown hg h.below.size (fun k hk => by have := hlo k hk; omega), h.box.grown hg (fun e => by have := hlo _ e.symm; omega), by simpa using hr, hs.kept hg (row_apart hs h.out), fun x hx => ?_⟩
  rcases List.mem_append.1 hx with hx | hx
  · exact (h.each x hx).kept hg (row_apart (h.each x hx) h.out)
  · obtain rfl := List.mem_singleton.1 hx
    exact hb.kept hg (row_apart hb h.out)
theorem RRW.rows (h : RRW w wx P oA oc R A c st) : RowsIn oA oc R wx := ⟨Rd.of_own h.out, fun b hb => Rd.of_own (h.each b hb)⟩
theorem RRW.hi (h : RRW w wx P oA oc R A c st) : RowsHi w.heap.size oA R :=
  ⟨fun a e => by have := own_base h.out (k := a.block) (by rw [e]; rfl); omega, fun b hb a e => own_base (h.each b hb) (by unfold BR.v; rw [e]; rfl)⟩
end

set_option maxRecDepth 100000 in
set_option maxHeartbeats 4000000 in
theorem rRun_any (P : PK) (RA : Option Addr) (rc : Nat) (L : List BR) (w : World) (hin : P.In w) (hf : P.fit) (hL : RowsIn RA rc L w) (hn : L.length ≤ 1000) (hb : ∀ b ∈ L, b.l.length ≤ 100000) :
    Calls Tryz.prog 39 #[.agg #[.int .i64 P.I, .slice P.AB P.bs.length P.cB, .slice P.AO P.outs.length P.cO], .slice RA L.length rc] w (RunOut P (L.map (·.l)) w) := by
  have T0 := Lib.hid (MW.new w P)
  have X0 := Lib.hid (Blk.made w 33 #[.int .i64 P.I, .slice P.AB P.bs.length P.cB, .slice P.AO P.outs.length P.cO])
  have hch := rCheck_any P _ (hin.later T0.out.below) hf
  have HCH := Lib.hid hch
  have HIN := Lib.hid hin
  have HF := Lib.hid hf
  have HL := Lib.hid hL
  have HB := Lib.hid hb
  obtain ⟨LL, hLL⟩ : ∃ LL, L.map (·.l) = LL := ⟨_, rfl⟩
  have HLL := Lib.hid hLL
  obtain ⟨N, hN⟩ : ∃ N, L.length = N := ⟨_, rfl⟩
  have HN := Lib.hid hN
  rw [hN] at hn ⊢
  rw [hLL]
  have hcb : (Tryz.prog.info? 25).map (fun i => (i.zero, i.size, i.bytes)) = some (some (.slice none 0 0), 1, 24) := by kernel_rfl
  obtain ⟨i0, hi0, hz0, hz1, hz2⟩ := info_parts hcb
  have HI0 := Lib.hid hi0
  have HZ0 := Lib.hid hz0
  have HZ1 := Lib.hid hz1
  have HZ2 := Lib.hid hz2
  obtain ⟨k0, k1, k2⟩ := T0.out.cells
  clear hch hin hf hL hb hLL hN hcb hi0 hz0 hz1 hz2
  go_enter Tryz.func39, Tryz.ntmps39
  go_wp2_with fail
  refine HCH.out.mono ?_
  rintro e w1 ⟨x, rfl, hx, hb1⟩
  have T1 := Lib.hid (T0.out.keep hb1)
  have X1 := Lib.hid (X0.out.keep hb1)
  have HX := Lib.hid hx
  clear hb1 k0 k1 k2
  obtain ⟨k0, k1, k2⟩ := T1.out.cells
  by_cases hx0 : x = 0
  case neg =>
    have hx0' : (x != 0) = true := by rw [bne_iff_ne]; exact hx0
    have HX0 := Lib.hid hx0
    clear hx hx0
    go_wp2_with fail
    refine bodyPost_ret (results_tmp2 Tryz.results39 _ _ _) rfl ?_
    exact RunOut.err T1.out.below (.inl ⟨HX.out, HX0.out, rfl⟩)
  subst hx0
  obtain ⟨hm, O, hO⟩ : P.may ∧ ∃ m, All (depE P.E) P.S m := by
    rcases hx with ⟨-, h1, h2⟩ | ⟨h, -⟩ | ⟨h, -⟩
    · exact ⟨h1, h2⟩
    · exact absurd h (by decide)
    · exact absurd h (by decide)
  have HM := Lib.hid hm
  have HO := Lib.hid hO
  have hnb := hm.2.2.1
  obtain ⟨AB, hAB⟩ : ∃ A, P.AB = A := ⟨_, rfl⟩
  have HAB := Lib.hid hAB
  rw [hAB] at k1
  have hz2 : w.heap.size < w1.heap.size := T1.out.box.lt
  clear hx hm hO hAB
  go_wp2_with fail
  go_loopw [7, 24] (fun v7 v24 wx => ∃ (k : Nat) (A : Option Addr) (c : Nat), k ≤ P.bs.length ∧ v24 = .int .i64 (k : Int) ∧ v7 = .slice A (flopTo P.bs k).length c ∧ Below w1.heap.size w1 wx ∧ wx.ownsRow w1.heap.size 4 1 (.slice A (flopTo P.bs k).length c) (flopTo P.bs k).length (bools ((flopTo P.bs k).map (itAt P.bs)))) (fun _ v24 _ => P.bs.length - (intOf v24).toNat)
  case atStart => exact ⟨0, none, 0, by omega, rfl, rfl, Below.refl _ _, World.ownsRow_nil _ _ _ _⟩
  case round =>
    obtain ⟨k, A, c, hk, rfl, rfl, hB, hO⟩ := hrel
    have B3 := Lib.hid hB
    have O3 := Lib.hid hO
    have T3 := Lib.hid (T1.out.keep hB)
    have X3 := Lib.hid (X1.out.keep hB)
    have hz3 := hB.size
    have hfl := flopTo_len P.bs k
    clear hB hO k0 k1 k2
    obtain ⟨j0, j1, j2⟩ := T3.out.cells
    rw [HAB.out] at j1
    by_cases hlt : k < P.bs.length
    case neg =>
      obtain rfl : k = P.bs.length := by omega
      have hfl0 : P.first.length = (flopTo P.bs P.bs.length).length := P.first_length
      have hfe : (flopTo P.bs P.bs.length).map (itAt P.bs) = P.first := rfl
      rw [hfe] at O3
      obtain ⟨nF, hnF⟩ : ∃ n, (flopTo P.bs P.bs.length).length = n := ⟨_, rfl⟩
      have HNF := Lib.hid hnF
      rw [hnF] at O3 hfl hfl0
      rw [hnF]
      have V0 := Lib.hid (show RRW w wr P none 0 [] A c P.first from ⟨T3.out.below, X3.out, World.ownsRow_nil _ _ _ _, by rw [hfl0]; exact own_base_le O3.out (by omega), fun b hb => (nomatch hb)⟩)
      clear hfl0 hfe hnF j0 j1 j2
      go_wp2_with fail
      go_loopw [7, 10, 38] (fun v7 v10 v38 wx => ∃ (q : Nat) (R : List BR) (A : Option Addr) (c : Nat) (oA : Option Addr) (oc : Nat), q ≤ N ∧ v38 = .int .i64 (q : Int) ∧ v7 = .slice A nF c ∧ v10 = .slice oA q oc ∧ R.length = q ∧ (∀ l ∈ LL.take q, (l.length : Int) = P.I) ∧ R.map (·.l) = P.told O LL q ∧ RRW w wx P oA oc R A c (P.stAt O LL q)) (fun _ _ v38 _ => N - (intOf v38).toNat)
      case atStart => exact ⟨0, [], A, c, none, 0, by omega, rfl, rfl, rfl, rfl, fun l hl => (nomatch hl), rfl, V0.out⟩
      case round =>
        clear V0
        obtain ⟨q, R, A, c, oA, oc, hq, rfl, rfl, rfl, hRq, hall, htold, hV⟩ := hrel
        have HRQ := Lib.hid hRq
        have HALL := Lib.hid hall
        have HTOLD := Lib.hid htold
        have V5 := Lib.hid hV
        have hz5 := hV.below.size
        clear hRq hall htold hV
        by_cases hlt2 : q < N
        case neg =>
          obtain rfl : q = N := by omega
          go_wp2_with fail
          refine bodyPost_ret (results_tmp2 Tryz.results39 _ _ _) rfl ?_
          have hLL : LL.length = q := by rw [← HLL.out, List.length_map]; exact HN.out
          have ha := HALL.out
          rw [List.take_of_length_le (by omega)] at ha
          exact ⟨oA, oc, R, 0, by rw [HRQ.out]; rfl, V5.out.below, V5.out.rows, V5.out.hi, .inr (.inr ⟨rfl, HM.out, ha, O, HO.out, by rw [HTOLD.out]; unfold PK.told PK.play; rw [hLL]⟩)⟩
        have hlq : q < L.length := by have := HN.out; omega
        obtain ⟨aR, haR, habR, cR, hRl⟩ := (HL.out.later V5.out.below).row hlq
        have hbl := HB.out _ (List.getElem_mem hlq)
        have hget : LL[q]? = some L[q].l := by rw [← HLL.out, List.getElem?_map, List.getElem?_eq_getElem hlq]; rfl
        have hgetD : LL.getD q [] = L[q].l := by rw [List.getD_eq_getElem?_getD, hget]; rfl
        have hmem : L[q].l ∈ LL := List.mem_of_getElem? hget
        have htake : LL.take (q + 1) = LL.take q ++ [L[q].l] := by rw [List.take_add_one, hget]; rfl
        have hst1 : P.stAt O LL (q + 1) = P.keep O (P.stAt O LL q) (LL.getD q []) := rfl
        have htn := P.told_next O LL q
        have hsl : (P.stAt O LL q).length = nF := (P.stAt_length O LL q).trans HNF.out
        rw [hgetD] at hst1 htn
        subst haR
        generalize L[q] = b at cR hRl hbl hmem htake hst1 htn
        clear hget hgetD hlq
        obtain ⟨bA, bc, bl⟩ := b
        simp only at cR hRl hbl hmem htake hst1 htn
        generalize P.stAt O LL q = st at V5 hst1 htn hsl
        have m0 := V5.out.box.cell 0
        have m1 := V5.out.box.cell 1
        have m2 := V5.out.box.cell 2
        have hev := reval_any P bA bc bl A c st wr (HIN.out.later V5.out.below) HF.out hRl (Rd.of_own V5.out.st) hbl (by omega)
        unfold REVAL at hev
        rw [hsl] at hev
        have HEV := Lib.hid hev
        have HSL := Lib.hid hsl
        have HMEM := Lib.hid hmem
        have HTAKE := Lib.hid htake
        have HST1 := Lib.hid hst1
        have HTN := Lib.hid htn
        clear hev hsl hmem htake hst1 htn hRl
        go_wp2_with fail
        refine HEV.out.mono ?_
        rintro e w7 ⟨eA, ec, o, nA, nc, nx, x, rfl, hb7, hoO, hoN, hR⟩
        have V7 := Lib.hid (V5.out.keep hb7)
        have O7 := Lib.hid hoO
        have N7 := Lib.hid hoN
        have hfix := eval_fix HM.out HO.out (by rw [HSL.out]; exact HNF.out.symm) hR
        clear hb7 hoO hoN hR
        by_cases hx1 : x = 0
        case neg =>
          have hx1' : (x != 0) = true := by rw [bne_iff_ne]; exact hx1
          obtain ⟨h1, rfl, -, -⟩ := hfix.resolve_right (fun h => hx1 h.2.1)
          have H1 := Lib.hid h1
          clear hfix h1
          go_wp2_with fail
          refine bodyPost_ret (results_tmp2 Tryz.results39 _ _ _) rfl ?_
          exact RunOut.err V7.out.below (.inr (.inl ⟨.inl ⟨rfl, HM.out, O, HO.out⟩, ⟨bl, HMEM.out, H1.out⟩, rfl, rfl⟩))
        obtain ⟨h1, -, h3, h4⟩ := hfix.resolve_left (fun h => by have := h.2.1; omega)
        subst hx1
        have hnl : nx.length = nF := by rw [h4, P.keep_length]; exact HNF.out
        have hbx := below_new w7 (.cells #[.slice eA o.length ec] 25)
        have V8 := Lib.hid (V7.out.keep hbx)
        have O8 := Lib.hid (own_keep (own_base_le O7.out hz5) hbx)
        have N8 := Lib.hid (own_keep (own_base_le N7.out hz5) hbx)
        have hz8 := V8.out.below.size
        have hor := V8.out.out
        rw [HRQ.out] at hor
        have HOR := Lib.hid hor
        have H1 := Lib.hid h1
        have H3 := Lib.hid h3
        have H4 := Lib.hid h4
        have hoc : (w7.alloc (.cells #[.slice eA o.length ec] 25)).cell? ⟨w7.heap.size, 0, none⟩ = some (.slice eA o.length ec) := (Blk.made w7 25 #[.slice eA o.length ec]).cell 0
        have HOC := Lib.hid hoc
        rw [hnl]
        clear hfix h1 h3 h4 hnl hbx hor hoc
        go_wp2_with (at_builtin; refine wpList_append_own _ rfl (.tmp 53) (.tmp 55) 42 rfl (w.heap.size + 1) 25 i0 (.slice none 0 0) 1 24 Tryz.underlying42 HI0.out HZ0.out HZ1.out HZ2.out rfl (by decide) (.slice oA q oc) q (R.map BR.v) rfl HOR.out ⟨w7.heap.size, 0, none⟩ 1 1 [.slice eA o.length ec] rfl rfl ?c1 ?c2 ?c3 ?c4 ?c5 ?_)
        case c1 =>
          intro j u hj
          cases j with
          | zero => simp at hj; subst hj; exact HOC.out
          | succ j => simp at hj
        case c2 => intro u hu; simp at hu; subst hu; rfl
        case c3 => unfold maxLen; omega
        case c4 => omega
        case c5 => have := (V8.out.box).lt; first | omega | (simp at *; omega)
        intro v' w9 hown hg9 hnil
        obtain ⟨A9, c9, rfl⟩ := own_slice hown
        have V9 := Lib.hid (V8.out.add (b := ⟨eA, ec, o⟩) O8.out (A' := nA) (c' := nc) (st' := nx) N8.out (qA := A9) (qc := c9) (by rw [HRQ.out]; exact hown) (by rw [HRQ.out]; exact hg9))
        clear hown hg9 hnil
        go_wp2_with fail
        go_roundw
        case rel => exact ⟨q + 1, R ++ [⟨eA, ec, o⟩], nA, nc, A9, c9, by omega, by go_num, rfl, rfl, by rw [List.length_append, HRQ.out]; rfl, fun l hl => by
            rw [HTAKE.out] at hl
            rcases List.mem_append.1 hl with hl | hl
            · exact HALL.out l hl
            · rw [List.mem_singleton.1 hl]; exact H1.out, by rw [HTN.out, List.map_append, HTOLD.out, ← H3.out]; rfl, by rw [HST1.out, ← H4.out]; exact V9.out⟩
        case measure => simp [intOf]; omega
    have hnx := flopTo_next P.bs k
    obtain ⟨a, b, hA, hff, hit, c0, c1, c2, c3⟩ := may_block (HIN.out.later T3.out.below) hlt
    rw [HAB.out] at hA
    subst hA
    have hbn := below_new wr (.cells #[.slice b.A b.l.length b.c, .int .i64 b.t, .bool b.ff, .bool b.it] 67)
    have B4 := Lib.hid (below_then B3.out hbn)
    have O4 := Lib.hid (own_keep O3.out hbn)
    have hz4 := B4.out.size
    clear hbn
    rw [← hff] at hnx
    have HIT := Lib.hid hit
    clear hit hff
    cases hb : b.ff with
    | false =>
      rw [hb] at c2 B4 O4 hz4 hnx
      have HN1 := Lib.hid (show flopTo P.bs (k + 1) = flopTo P.bs k from by rw [hnx]; simp)
      clear hb hnx
      go_wp2_with fail
      go_roundw
      case rel => exact ⟨k + 1, A, c, by omega, by go_num, by rw [HN1.out], B4.out, by rw [HN1.out]; exact O4.out⟩
      case measure => simp [intOf]; omega
    | true =>
      rw [hb] at c2 B4 O4 hz4 hnx
      have HN1 := Lib.hid (show flopTo P.bs (k + 1) = flopTo P.bs k ++ [k] from by rw [hnx]; simp)
      clear hb hnx
      generalize b.it = b1 at c3 B4 O4 hz4 HIT
      have B5 := Lib.hid (below_then B4.out (below_new _ (.cells #[.bool b1] 4)))
      go_wp2_with (at_builtin; refine wpList_app_bools rfl (.tmp 30) (.tmp 33) rfl w1.heap.size A (flopTo P.bs k).length c _ rfl (O4.out.alloc _) (some ⟨wr.heap.size + 1, 0, none⟩) 1 1 [b1] (by first | rfl | simp) (by have := rd_bool1 (wr.alloc (.cells #[.slice b.A b.l.length b.c, .int .i64 b.t, .bool true, .bool b1] 67)) 4 b1; simpa using this) (by omega) (by simp; omega) ?_)
      intro A' c' w' hO' hg'
      have B6 := Lib.hid (B5.out.grown hg' (by simp; omega) (fun k hk => own_base O4.out hk))
      have O6 := Lib.hid hO'
      clear hO' hg'
      go_wp2_with fail
      go_roundw
      case rel => exact ⟨k + 1, A', c', by omega, by go_num, by rw [HN1.out]; simp, B6.out, by rw [HN1.out, List.map_append, List.length_append]; simp only [List.map_cons, List.map_nil, ← HIT.out]; exact O6.out⟩
      case measure => simp [intOf]; omega
end Go.Proofs.YtoloaecbfglaeaaGreat
