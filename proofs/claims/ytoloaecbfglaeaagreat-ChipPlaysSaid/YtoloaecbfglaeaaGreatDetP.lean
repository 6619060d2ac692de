/- Walks of filigree/chip.Eval, filigreeref32.Eval, Run. · What a configuration's blocks tell hangs on no place in memory, and on no way of telling: plainly; a []bool argument opened. -/
import Derived.Test.YtoloaecbfglaeaaGreatRRead
import Derived.Test.YtoloaecbfglaeaaGreatRRun
import Derived.Test.YtoloaecbfglaeaaGreatIdleC
import Derived.Test.YtoloaecbfglaeaaGreatOpenR

namespace Go.Proofs.YtoloaecbfglaeaaGreat
open Go.RowKit Topo
set_option linter.unusedVariables false
set_option linter.unusedSimpArgs false

set_option maxRecDepth 100000 in
set_option maxHeartbeats 2000000 in
theorem rchipRun_any (C : Cfg) (RA : Option Addr) (rc : Nat) (L : List BR) (w : World) (hin : C.In w) (hf : C.few) (hL : RowsIn RA rc L w) (hn : L.length ≤ 1000) (hb : ∀ b ∈ L, b.l.length ≤ 100000) :
    Calls Tryz.prog 17 #[.agg #[.int .i64 C.W, .int .i64 C.H, .int .i64 C.T, .slice C.AT C.tiles.length C.cT, .slice C.AO C.on.length C.cO, .slice C.AI C.ins.length C.cI, .slice C.AU C.outs.length C.cU], .slice RA L.length rc] w (CRunOut C (L.map (·.l)) w) := by
  have hb0 := below_new w (.cells #[.int .i64 C.W, .int .i64 C.H, .int .i64 C.T, .slice C.AT C.tiles.length C.cT, .slice C.AO C.on.length C.cO, .slice C.AI C.ins.length C.cI, .slice C.AU C.outs.length C.cU] 28)
  have Q0 := Lib.hid hb0
  have hre := rread_any C _ (hin.later hb0) hf
  unfold RREAD at hre
  have HRE := Lib.hid hre
  have hpr := fun (P : PK) W (hB : Below w.heap.size w W) (hi : P.In W) (hf : P.fit) => rRun_any P RA rc L W hi hf (hL.later hB) hn hb
  have HPR := Lib.hid hpr
  generalize L.map (·.l) = LL at HPR
  generalize L.length = N at HPR
  clear hb0 hre hpr hin hf hb hn
  go_enter Tryz.func17, Tryz.ntmps17
  go_wp2_with fail
  refine HRE.out.mono ?_
  rintro e w1 ⟨P, x, rfl, hb1, hP, hPf, hR, -⟩
  have B1 := Lib.hid (below_then Q0.out hb1)
  have hb2 := below_new w1 (.cells #[.int .i64 P.I, .slice P.AB P.bs.length P.cB, .slice P.AO P.outs.length P.cO] 33)
  have B2 := Lib.hid (below_then B1.out hb2)
  have R2 := Lib.hid hR
  by_cases hx : x = 0
  case neg =>
    have hx1 : (x != 0) = true := by rw [bne_iff_ne]; exact hx
    have HX := Lib.hid hx
    clear hb1 hb2 hP hPf hR hx
    go_wp2_with fail
    refine bodyPost_ret (results_tmp2 Tryz.results17 _ _ _) rfl ?_
    exact ⟨none, 0, [], x, rfl, B2.out, RowsIn.nil _, RowsHi.nil _, P, x, R2.out, .inl ⟨HX.out, rfl, rfl⟩⟩
  subst hx
  have hpk := HPR.out P _ B2.out (hP.later hb2) hPf
  have HPK := Lib.hid hpk
  clear hb1 hb2 hP hPf hR hpk
  go_wp2_with fail
  refine HPK.out.mono ?_
  rintro e w3 ⟨A, c, R, x, rfl, hb3, hR3, hHi, hRR⟩
  have B3 := Lib.hid (below_then B2.out hb3)
  have R3 := Lib.hid hR3
  have RR := Lib.hid hRR
  have HI := Lib.hid (hHi.le B2.out.size)
  clear hb3 hR3 hRR hHi
  go_wp2_with fail
  refine bodyPost_ret (results_tmp2 Tryz.results17 _ _ _) rfl ?_
  exact ⟨A, c, R, x, rfl, B3.out, R3.out, HI.out, P, 0, R2.out, .inr ⟨rfl, RR.out⟩⟩

/-- what Eval of a configuration tells -/
def CEvalR (C : Cfg) (li ls o nx : List Bool) (x : Int) : Prop := ∃ (P : PK) (y : Int), ReadR C P y ∧ ((y ≠ 0 ∧ x = y ∧ o = [] ∧ nx = []) ∨ (y = 0 ∧ EvalR P li ls o nx x))
def CEvalOut (C : Cfg) (li ls : List Bool) (w : World) (e : Ending) (w' : World) : Prop :=
  ∃ A c o A2 c2 nx x, e = .returned (.tuple #[.slice A o.length c, .slice A2 nx.length c2, .int .i64 x]) ∧ Below w.heap.size w w' ∧ Rd w' 1 A o.length c (bools o) ∧ Rd w' 1 A2 nx.length c2 (bools nx) ∧ CEvalR C li ls o nx x

set_option maxRecDepth 100000 in
set_option maxHeartbeats 2000000 in
theorem chipEval_any (C : Cfg) (IA : Option Addr) (cI : Nat) (li : List Bool) (SA : Option Addr) (cS : Nat) (ls : List Bool) (w : World) (hin : C.In w) (hf : C.few)
    (hri : Rd w 1 IA li.length cI (bools li)) (hrs : Rd w 1 SA ls.length cS (bools ls)) (hli : li.length ≤ 100000) (hls : ls.length ≤ 100000) :
    Calls Tryz.prog 12 #[.agg #[.int .i64 C.W, .int .i64 C.H, .int .i64 C.T, .slice C.AT C.tiles.length C.cT, .slice C.AO C.on.length C.cO, .slice C.AI C.ins.length C.cI, .slice C.AU C.outs.length C.cU], .slice IA li.length cI, .slice SA ls.length cS] w (CEvalOut C li ls w) := by
  have hb0 := below_new w (.cells #[.int .i64 C.W, .int .i64 C.H, .int .i64 C.T, .slice C.AT C.tiles.length C.cT, .slice C.AO C.on.length C.cO, .slice C.AI C.ins.length C.cI, .slice C.AU C.outs.length C.cU] 28)
  have Q0 := Lib.hid hb0
  have hre := read_any C _ (hin.later hb0) hf
  unfold READ at hre
  have HRE := Lib.hid hre
  have hpr := fun (P : PK) W (hB : Below w.heap.size w W) (hi : P.In W) (hf : P.fit) => eval_any P IA cI li SA cS ls W hi hf (hri.later hB) (hrs.later hB) hli hls
  unfold EVAL at hpr
  have HPR := Lib.hid hpr
  clear hb0 hre hpr hin hf hri hrs
  go_enter Tryz.func12, Tryz.ntmps12
  go_wp2_with fail
  refine HRE.out.mono ?_
  rintro e w1 ⟨P, x, rfl, hb1, hP, hPf, hR, -⟩
  have B1 := Lib.hid (below_then Q0.out hb1)
  have hb2 := below_new w1 (.cells #[.int .i64 P.I, .slice P.AB P.bs.length P.cB, .slice P.AO P.outs.length P.cO] 33)
  have B2 := Lib.hid (below_then B1.out hb2)
  have R2 := Lib.hid hR
  by_cases hx : x = 0
  case neg =>
    have hx1 : (x != 0) = true := by rw [bne_iff_ne]; exact hx
    have HX := Lib.hid hx
    clear hb1 hb2 hP hPf hR hx
    go_wp2_with fail
    refine bodyPost_ret (results_tmp3 Tryz.results12 _ _ _) rfl ?_
    exact ⟨none, 0, [], none, 0, [], x, rfl, B2.out, Rd.empty, Rd.empty, P, x, R2.out, .inl ⟨HX.out, rfl, rfl, rfl⟩⟩
  subst hx
  have hpk := HPR.out P _ B2.out (hP.later hb2) hPf
  have HPK := Lib.hid hpk
  clear hb1 hb2 hP hPf hR hpk
  go_wp2_with fail
  refine HPK.out.mono ?_
  rintro e w3 ⟨A, c, o, A2, c2, nx, x, rfl, hb3, hO, hN, hRR⟩
  have B3 := Lib.hid (below_then B2.out hb3)
  have O3 := Lib.hid (Rd.of_own hO)
  have N3 := Lib.hid (Rd.of_own hN)
  have RR := Lib.hid hRR
  clear hb3 hO hN hRR
  go_wp2_with fail
  refine bodyPost_ret (results_tmp3 Tryz.results12 _ _ _) rfl ?_
  exact ⟨A, c, o, A2, c2, nx, x, rfl, B3.out, O3.out, N3.out, P, 0, R2.out, .inr ⟨rfl, RR.out⟩⟩

set_option maxRecDepth 100000 in
set_option maxHeartbeats 2000000 in
theorem rchipEval_any (C : Cfg) (IA : Option Addr) (cI : Nat) (li : List Bool) (SA : Option Addr) (cS : Nat) (ls : List Bool) (w : World) (hin : C.In w) (hf : C.few)
    (hri : Rd w 1 IA li.length cI (bools li)) (hrs : Rd w 1 SA ls.length cS (bools ls)) (hli : li.length ≤ 100000) (hls : ls.length ≤ 100000) :
    Calls Tryz.prog 13 #[.agg #[.int .i64 C.W, .int .i64 C.H, .int .i64 C.T, .slice C.AT C.tiles.length C.cT, .slice C.AO C.on.length C.cO, .slice C.AI C.ins.length C.cI, .slice C.AU C.outs.length C.cU], .slice IA li.length cI, .slice SA ls.length cS] w (CEvalOut C li ls w) := by
  have hb0 := below_new w (.cells #[.int .i64 C.W, .int .i64 C.H, .int .i64 C.T, .slice C.AT C.tiles.length C.cT, .slice C.AO C.on.length C.cO, .slice C.AI C.ins.length C.cI, .slice C.AU C.outs.length C.cU] 28)
  have Q0 := Lib.hid hb0
  have hre := rread_any C _ (hin.later hb0) hf
  unfold RREAD at hre
  have HRE := Lib.hid hre
  have hpr := fun (P : PK) W (hB : Below w.heap.size w W) (hi : P.In W) (hf : P.fit) => reval_any P IA cI li SA cS ls W hi hf (hri.later hB) (hrs.later hB) hli hls
  unfold REVAL at hpr
  have HPR := Lib.hid hpr
  clear hb0 hre hpr hin hf hri hrs
  go_enter Tryz.func13, Tryz.ntmps13
  go_wp2_with fail
  refine HRE.out.mono ?_
  rintro e w1 ⟨P, x, rfl, hb1, hP, hPf, hR, -⟩
  have B1 := Lib.hid (below_then Q0.out hb1)
  have hb2 := below_new w1 (.cells #[.int .i64 P.I, .slice P.AB P.bs.length P.cB, .slice P.AO P.outs.length P.cO] 33)
  have B2 := Lib.hid (below_then B1.out hb2)
  have R2 := Lib.hid hR
  by_cases hx : x = 0
  case neg =>
    have hx1 : (x != 0) = true := by rw [bne_iff_ne]; exact hx
    have HX := Lib.hid hx
    clear hb1 hb2 hP hPf hR hx
    go_wp2_with fail
    refine bodyPost_ret (results_tmp3 Tryz.results13 _ _ _) rfl ?_
    exact ⟨none, 0, [], none, 0, [], x, rfl, B2.out, Rd.empty, Rd.empty, P, x, R2.out, .inl ⟨HX.out, rfl, rfl, rfl⟩⟩
  subst hx
  have hpk := HPR.out P _ B2.out (hP.later hb2) hPf
  have HPK := Lib.hid hpk
  clear hb1 hb2 hP hPf hR hpk
  go_wp2_with fail
  refine HPK.out.mono ?_
  rintro e w3 ⟨A, c, o, A2, c2, nx, x, rfl, hb3, hO, hN, hRR⟩
  have B3 := Lib.hid (below_then B2.out hb3)
  have O3 := Lib.hid (Rd.of_own hO)
  have N3 := Lib.hid (Rd.of_own hN)
  have RR := Lib.hid hRR
  clear hb3 hO hN hRR
  go_wp2_with fail
  refine bodyPost_ret (results_tmp3 Tryz.results13 _ _ _) rfl ?_
  exact ⟨A, c, o, A2, c2, nx, x, rfl, B3.out, O3.out, N3.out, P, 0, R2.out, .inr ⟨rfl, RR.out⟩⟩
end Go.Proofs.YtoloaecbfglaeaaGreat

namespace Go.Proofs.YtoloaecbfglaeaaGreat
open Go.ChangeShapes Go.WideShapes Go.ChangeAt Go.RowKit Go.Joins Go.Deep Topo
set_option linter.unusedVariables false
set_option linter.unusedSimpArgs false

set_option maxRecDepth 100000 in
theorem open_bits {H : Type} {enc : TypeId × Value → H} {w : World} {base b0 : Nat} {held : Bool} {r : Reach} {v : Value} {d : DataW H} {p : List MemPlace}
    (hv : Value.okWide Tryz.prog w r b0 25 v) (h : DataW.Trod enc Tryz.prog w base (fun _ => true) held 25 v d p) :
    ∃ A c l, v = .slice A (l : List Bool).length c ∧ Rd w 1 A l.length c (bools l) := by
  have he : Tryz.prog.cellsOf 4 = 1 := by kernel_rfl
  obtain ⟨a1, len, cap, rfl⟩ := okWide_slice Tryz.underlying25 hv
  obtain ⟨fuel, hf⟩ := h
  exact rd_bools Tryz.underlying25 Tryz.underlying4 he hf

theorem twin_same {P Q : PK} (h : P.plain = Q.plain) (hm : P.may) : Twin P Q P.bs.length := by
  have h' := h
  simp only [PK.plain, Prod.mk.injEq] at h'
  obtain ⟨hi, hb, ho⟩ := h'
  have hn : P.bs.length = Q.bs.length := by have := congrArg List.length hb; simpa using this
  have hk : ∀ k, P.bs[k]?.map BL.plain = Q.bs[k]?.map BL.plain := fun k => by rw [← List.getElem?_map, ← List.getElem?_map, hb]
  have hin : ∀ k, inL P.bs k = inL Q.bs k := fun k => by
    have := hk k
    unfold inL
    cases hp : P.bs[k]? <;> cases hq : Q.bs[k]? <;> rw [hp, hq] at this <;> simp [BL.plain] at this ⊢
    exact this.1
  have hta : ∀ k, tAt P.bs k = tAt Q.bs k := fun k => by
    have := hk k
    unfold tAt
    cases hp : P.bs[k]? <;> cases hq : Q.bs[k]? <;> rw [hp, hq] at this <;> simp [BL.plain] at this ⊢
    exact this.2.1
  have hff : ∀ k, ffAt P.bs k = ffAt Q.bs k := fun k => by
    have := hk k
    unfold ffAt
    cases hp : P.bs[k]? <;> cases hq : Q.bs[k]? <;> rw [hp, hq] at this <;> simp [BL.plain] at this ⊢
    exact this.2.2.1
  have hit : ∀ k, itAt P.bs k = itAt Q.bs k := fun k => by
    have := hk k
    unfold itAt
    cases hp : P.bs[k]? <;> cases hq : Q.bs[k]? <;> rw [hp, hq] at this <;> simp [BL.plain] at this ⊢
    exact this.2.2.2
  refine ⟨hi, hn, ho, hin, fun k _ => hta k, hff, hit, ?_, fun k x hx => ?_, fun x hx => ?_⟩
  · unfold PK.flops flopTo; rw [hn]; exact List.filter_congr (fun k _ => hff k)
  · have := (may_in hm hx).2; unfold PK.N at this; omega
  · have := (any_bad_no hm.2.2.2.2 x hx).2; unfold PK.N at this; omega

/-- what a configuration does hangs on no place in memory -/
theorem same_run {C D : Cfg} (h : sameP C D) {L rs rs' : List (List Bool)} {x x' : Int} (h1 : CRunR C L rs x) (h2 : CRunR D L rs' x') : x = x' ∧ rs = rs' := by
  obtain ⟨P1, y1, r1, k1⟩ := h1
  obtain ⟨P2, y2, r2, k2⟩ := h2
  have hR : ReadR C P2 y2 := by
    obtain ⟨W, H, T, AT, cT, tiles, AO, cO, on, AI, cI, ins, AU, cU, outs⟩ := C
    obtain ⟨W', H', T', AT', cT', tiles', AO', cO', on', AI', cI', ins', AU', cU', outs'⟩ := D
    obtain ⟨⟨a, b, c⟩, d, e, f, g⟩ := h
    simp only at a b c d e f g
    subst a b c d e f g
    exact r2
  clear r2
  by_cases hd : dE C = 0
  case neg =>
    unfold ReadR at r1 hR
    rw [if_pos hd] at r1 hR
    subst r1 hR
    rcases k1 with ⟨-, rfl, rfl⟩ | ⟨h0, -⟩
    · rcases k2 with ⟨-, rfl, rfl⟩ | ⟨h0, -⟩
      · exact ⟨rfl, rfl⟩
      · exact absurd h0 hd
    · exact absurd h0 hd
  by_cases ho : (outsD C).any (fun o => decide (o < 0)) = true
  case pos =>
    unfold ReadR at r1 hR
    rw [if_neg (by simp [hd]), if_pos ho] at r1 hR
    subst r1 hR
    rcases k1 with ⟨-, rfl, rfl⟩ | ⟨h0, -⟩
    · rcases k2 with ⟨-, rfl, rfl⟩ | ⟨h0, -⟩
      · exact ⟨rfl, rfl⟩
      · exact absurd h0 (by decide)
    · exact absurd h0 (by decide)
  obtain ⟨Q1, q1, c1, e1⟩ := read_next hd ho r1
  obtain ⟨Q2, q2, c2, e2⟩ := read_next hd ho hR
  obtain rfl : y1 = y2 := (c1.plain (q1.trans q2.symm)).one c2
  rcases k1 with ⟨hn, rfl, rfl⟩ | ⟨rfl, k1⟩
  · rcases k2 with ⟨-, rfl, rfl⟩ | ⟨h0, -⟩
    · exact ⟨rfl, rfl⟩
    · exact absurd h0 hn
  rcases k2 with ⟨h0, -⟩ | ⟨-, k2⟩
  · exact absurd rfl h0
  have p1 := e1 rfl
  have p2 := e2 rfl
  obtain ⟨hm1, O, hO⟩ : P1.may ∧ ∃ m, All (depE P1.E) P1.S m := by
    rcases c1.plain (q1.trans p1.symm) with ⟨-, a, b⟩ | ⟨a, -⟩ | ⟨a, -⟩
    · exact ⟨a, b⟩
    · exact absurd a (by decide)
    · exact absurd a (by decide)
  have tw := twin_same (p1.trans p2.symm) hm1
  exact tw.run hm1 (tw.may hm1 (pack_tab p2)) hO k1 k2


theorem read_one {C : Cfg} {P Q : PK} {x y : Int} (h : ReadR C P x) (k : ReadR C Q y) : x = y ∧ (x = 0 → P.plain = Q.plain) := by
  by_cases hd : dE C = 0
  case neg =>
    unfold ReadR at h k
    rw [if_pos hd] at h k
    exact ⟨by rw [h, k], fun hx => absurd (h.symm.trans hx) hd⟩
  by_cases ho : (outsD C).any (fun o => decide (o < 0)) = true
  case pos =>
    unfold ReadR at h k
    rw [if_neg (by simp [hd]), if_pos ho] at h k
    exact ⟨by rw [h, k], fun hx => absurd (h.symm.trans hx) (by decide)⟩
  obtain ⟨Q1, q1, c1, e1⟩ := read_next hd ho h
  obtain ⟨Q2, q2, c2, e2⟩ := read_next hd ho k
  obtain rfl : x = y := (c1.plain (q1.trans q2.symm)).one c2
  exact ⟨rfl, fun hx => (e1 hx).trans (e2 hx).symm⟩
theorem eval_plain {P Q : PK} (h : P.plain = Q.plain) {li ls o nx : List Bool} {x : Int} (k : EvalR Q li ls o nx x) : EvalR P li ls o nx x := by
  have h' := h
  simp only [PK.plain, Prod.mk.injEq] at h'
  obtain ⟨hi, hb, ho⟩ := h'
  have hn : P.bs.length = Q.bs.length := by have := congrArg List.length hb; simpa using this
  have hk : ∀ k, P.bs[k]?.map BL.plain = Q.bs[k]?.map BL.plain := fun k => by rw [← List.getElem?_map, ← List.getElem?_map, hb]
  have hta : ∀ k, tAt P.bs k = tAt Q.bs k := fun k => by
    have := hk k
    unfold tAt
    cases hp : P.bs[k]? <;> cases hq : Q.bs[k]? <;> rw [hp, hq] at this <;> simp [BL.plain] at this ⊢
    exact this.2.1
  have hE : P.E = Q.E := by unfold PK.E; rw [plain_ed hb, hi, hn]
  have hS : P.S = Q.S := funext fun k => by unfold PK.S; rw [plain_ff hb]
  have hfl : P.flops = Q.flops := by unfold PK.flops flopTo; rw [hn]; exact List.filter_congr (fun k _ => plain_ff hb k)
  have hv : P.val = Q.val := funext fun i => funext fun W => by unfold PK.val; rw [plain_in hb, hta]
  have hw : ∀ O, P.w2 O li ls = Q.w2 O li ls := fun O => by unfold PK.w2 PK.w1; rw [hv, hi, hfl, hn]
  rcases k with ⟨h1, h2⟩ | ⟨h1, h2, h3⟩ | ⟨h1, h2, h3, h4, O, h5, h6, h7⟩
  · exact .inl ⟨h1.plain h.symm, h2⟩
  · exact .inr (.inl ⟨h1.plain h.symm, by rw [hi, hfl]; exact h2, h3⟩)
  · exact .inr (.inr ⟨h1, plain_may h.symm h2, by rw [hi]; exact h3, by rw [hfl]; exact h4, O, by rw [hE, hS]; exact h5, by rw [ho, hw]; exact h6, by rw [hfl, hv, hw]; exact h7⟩)
theorem eval_det {P : PK} {li ls o nx o' nx' : List Bool} {x x' : Int} (h : EvalR P li ls o nx x) (k : EvalR P li ls o' nx' x') : x = x' ∧ o = o' ∧ nx = nx' := by
  rcases h with ⟨h1, h2, rfl, rfl⟩ | ⟨h1, h2, rfl, rfl, rfl⟩ | ⟨rfl, h2, h3, h4, O, h5, rfl, rfl⟩
  · rcases k with ⟨k1, k2, rfl, rfl⟩ | ⟨k1, -⟩ | ⟨-, k2, -, -, O, k5, -⟩
    · exact ⟨h1.one k1, rfl, rfl⟩
    · exact absurd (h1.one k1) h2
    · exact absurd (h1.one (.inl ⟨rfl, k2, O, k5⟩)) h2
  · rcases k with ⟨k1, k2, -⟩ | ⟨-, -, rfl, rfl, rfl⟩ | ⟨-, -, k3, k4, -⟩
    · exact absurd (k1.one h1) k2
    · exact ⟨rfl, rfl, rfl⟩
    · rcases h2 with h2 | h2
      · exact absurd k3 h2
      · exact absurd k4 h2
  · rcases k with ⟨k1, k2, -⟩ | ⟨-, k2, -⟩ | ⟨rfl, -, -, -, O', k5, rfl, rfl⟩
    · exact absurd (k1.one (.inl ⟨rfl, h2, O, h5⟩)) k2
    · rcases k2 with k2 | k2
      · exact absurd h3 k2
      · exact absurd h4 k2
    · have e := w2_same h2 h5 k5 h3 ls
      exact ⟨rfl, by rw [e], by rw [e]⟩
theorem ceval_det {C : Cfg} {li ls o nx o' nx' : List Bool} {x x' : Int} (h : CEvalR C li ls o nx x) (k : CEvalR C li ls o' nx' x') : x = x' ∧ o = o' ∧ nx = nx' := by
  obtain ⟨P, y, hr, h⟩ := h
  obtain ⟨Q, z, kr, k⟩ := k
  obtain ⟨rfl, hp⟩ := read_one hr kr
  rcases h with ⟨h0, rfl, rfl, rfl⟩ | ⟨h0, h⟩
  · rcases k with ⟨-, rfl, rfl, rfl⟩ | ⟨k0, -⟩
    · exact ⟨rfl, rfl, rfl⟩
    · exact absurd k0 h0
  · rcases k with ⟨k0, -⟩ | ⟨-, k⟩
    · exact absurd h0 k0
    · exact eval_det h (eval_plain (hp h0) k)
theorem ceval_len {C : Cfg} {li ls o nx : List Bool} {x : Int} (h : CEvalR C li ls o nx x) : o.length ≤ C.outs.length ∧ nx.length ≤ C.tiles.length := by
  obtain ⟨P, y, hr, h⟩ := h
  rcases h with ⟨-, -, rfl, rfl⟩ | ⟨rfl, h⟩
  · exact ⟨Nat.zero_le _, Nat.zero_le _⟩
  · rcases h with ⟨-, -, rfl, rfl⟩ | ⟨-, -, -, rfl, rfl⟩ | ⟨-, -, -, -, O, -, rfl, rfl⟩
    · exact ⟨Nat.zero_le _, Nat.zero_le _⟩
    · exact ⟨Nat.zero_le _, Nat.zero_le _⟩
    · have hp := plain_at (read_zero hr).2.2.2.1
      refine ⟨by rw [List.length_map, hp.2.2.1]; simp [outsD], ?_⟩
      rw [List.length_map, ← hp.2.1]
      exact flopTo_len _ _
theorem same_refl (C : Cfg) : sameP C C := ⟨⟨rfl, rfl, rfl⟩, rfl, rfl, rfl, rfl⟩
end Go.Proofs.YtoloaecbfglaeaaGreat
