/- Walk of filigree/chip.Run: what a chip tells row by row. · Plain: a tile's table that nobody reads: two configurations tell the same. -/
import Derived.Test.YtoloaecbfglaeaaGreatRun
import Derived.Test.YtoloaecbfglaeaaGreatRead

namespace Go.Proofs.YtoloaecbfglaeaaGreat
open Go.RowKit Topo
set_option linter.unusedVariables false
set_option linter.unusedSimpArgs false

def CRunR (C : Cfg) (L rs : List (List Bool)) (x : Int) : Prop := ∃ (P : PK) (y : Int), ReadR C P y ∧ ((y ≠ 0 ∧ x = y ∧ rs = []) ∨ (y = 0 ∧ RunR P L rs x))
def CRunOut (C : Cfg) (L : List (List Bool)) (w : World) (e : Ending) (w' : World) : Prop :=
  ∃ (A : Option Addr) (c : Nat) (R : List BR) (x : Int), e = .returned (.tuple #[.slice A R.length c, .int .i64 x]) ∧ Below w.heap.size w w' ∧ RowsIn A c R w' ∧ RowsHi w.heap.size A R ∧ CRunR C L (R.map (·.l)) x
set_option maxRecDepth 100000 in
set_option maxHeartbeats 2000000 in
theorem chipRun_any (C : Cfg) (RA : Option Addr) (rc : Nat) (L : List BR) (w : World) (hin : C.In w) (hf : C.few) (hL : RowsIn RA rc L w) (hn : L.length ≤ 1000) (hb : ∀ b ∈ L, b.l.length ≤ 100000) :
    Calls Tryz.prog 16 #[.agg #[.int .i64 C.W, .int .i64 C.H, .int .i64 C.T, .slice C.AT C.tiles.length C.cT, .slice C.AO C.on.length C.cO, .slice C.AI C.ins.length C.cI, .slice C.AU C.outs.length C.cU], .slice RA L.length rc] w (CRunOut C (L.map (·.l)) w) := by
  have hb0 := below_new w (.cells #[.int .i64 C.W, .int .i64 C.H, .int .i64 C.T, .slice C.AT C.tiles.length C.cT, .slice C.AO C.on.length C.cO, .slice C.AI C.ins.length C.cI, .slice C.AU C.outs.length C.cU] 28)
  have Q0 := Lib.hid hb0
  have hre := read_any C _ (hin.later hb0) hf
  unfold READ at hre
  have HRE := Lib.hid hre
  have hpr := fun (P : PK) W (hB : Below w.heap.size w W) (hi : P.In W) (hf : P.fit) => packRun_any P RA rc L W hi hf (hL.later hB) hn hb
  have HPR := Lib.hid hpr
  generalize L.map (·.l) = LL at HPR
  generalize L.length = N at HPR
  clear hb0 hre hpr hin hf hb hn
  go_enter Tryz.func16, Tryz.ntmps16
  go_wp2_with fail
  refine HRE.out.mono ?_
  rintro e w1 ⟨P, x, rfl, hb1, hP, hPf, hR, -⟩
  have B1 := Lib.hid (below_then Q0.out hb1)
  have hb2 := below_new w1 (.cells #[.int .i64 P.I, .slice P.AB P.bs.length P.cB, .slice P.AO P.outs.length P.cO] 33)
  have B2 := Lib.hid (below_then B1.out hb2)
  have R2 := Lib.hid hR
  by_cases hx : x = 0
  case neg =>
    have hx1 : (x != 0) = true := by rw [bne_iff_ne]; exact hx
    have HX := Lib.hid hx
    clear hb1 hb2 hP hPf hR hx
    go_wp2_with fail
    refine bodyPost_ret (results_tmp2 Tryz.results16 _ _ _) rfl ?_
    exact ⟨none, 0, [], x, rfl, B2.out, RowsIn.nil _, RowsHi.nil _, P, x, R2.out, .inl ⟨HX.out, rfl, rfl⟩⟩
  subst hx
  have hpk := HPR.out P _ B2.out (hP.later hb2) hPf
  have HPK := Lib.hid hpk
  clear hb1 hb2 hP hPf hR hpk
  go_wp2_with fail
  refine HPK.out.mono ?_
  rintro e w3 ⟨A, c, R, x, rfl, hb3, hR3, hHi, hRR⟩
  have B3 := Lib.hid (below_then B2.out hb3)
  have R3 := Lib.hid hR3
  have RR := Lib.hid hRR
  have HI := Lib.hid (hHi.le B2.out.size)
  clear hb3 hR3 hRR hHi
  go_wp2_with fail
  refine bodyPost_ret (results_tmp2 Tryz.results16 _ _ _) rfl ?_
  exact ⟨A, c, R, x, rfl, B3.out, R3.out, HI.out, P, 0, R2.out, .inr ⟨rfl, RR.out⟩⟩
end Go.Proofs.YtoloaecbfglaeaaGreat

namespace Go.Proofs.YtoloaecbfglaeaaGreat
open Go.RowKit Topo
set_option linter.unusedVariables false
set_option linter.unusedSimpArgs false

/-- tile t set to table T -/
def idleC (C : Cfg) (A : Option Addr) (c t : Nat) (T : Int) : Cfg := { C with AT := A, cT := c, tiles := C.tiles.set t (T, (C.tiles[t]!).2) }
section
variable {C : Cfg} {A : Option Addr} {c t : Nat} {T : Int}
theorem idle_len : (idleC C A c t T).tiles.length = C.tiles.length := by simp [idleC]
theorem idle_few (h : C.few) : (idleC C A c t T).few := by unfold Cfg.few at h ⊢; rw [idle_len]; exact h
theorem idle_tile {k : Nat} (hk : k < C.tiles.length) : (idleC C A c t T).tiles[k]! = if t = k then (T, (C.tiles[t]!).2) else C.tiles[k]! := by
  have h1 : k < (idleC C A c t T).tiles.length := by rw [idle_len]; exact hk
  rw [getElem!_pos _ k h1, getElem!_pos C.tiles k hk]
  simp only [idleC]
  rw [List.getElem_set]
theorem idle_ok (h : C.ok) (ht : t < C.tiles.length) (hT : 0 ≤ T ∧ T ≤ 65535) : (idleC C A c t T).ok := by
  refine ⟨h.1, h.2.1, by rw [idle_len]; exact h.2.2.1, h.2.2.2.1, ?_⟩
  have h5 := h.2.2.2.2
  rw [List.any_eq_false] at h5 ⊢
  intro x hx
  rcases List.mem_or_eq_of_mem_set hx with hx | rfl
  · exact h5 x hx
  · have := h5 (C.tiles[t]!) (by rw [getElem!_pos C.tiles t ht]; exact List.getElem_mem ht)
    simp only [oddB, Bool.or_eq_true, not_or, decide_eq_true_eq] at this ⊢
    exact ⟨⟨by omega, by omega⟩, this.2⟩
theorem idle_labs : labs (idleC C A c t T) = labs C := by
  unfold labs endsL
  rw [idle_len]
  rfl
theorem idle_dL (h : C.ok) (ht : t < C.tiles.length) (hT : 0 ≤ T ∧ T ≤ 65535) : dL (idleC C A c t T) = dL C := by
  have h1 := idle_ok (A := A) (c := c) h ht hT
  have h2 : driversL (idleC C A c t T) = driversL C := by unfold driversL; rw [idle_labs]; rfl
  unfold dL
  rw [idle_labs, h2]
  by_cases hn : (labs C).Nodup
  · rw [if_pos ⟨h1, hn⟩, if_pos ⟨h, hn⟩]
  · rw [if_neg (fun k => hn k.2), if_neg (fun k => hn k.2)]
theorem idle_dE (h : C.ok) (ht : t < C.tiles.length) (hT : 0 ≤ T ∧ T ≤ 65535) : dE (idleC C A c t T) = dE C := by
  unfold dE
  rw [if_pos (idle_ok h ht hT), if_pos h, idle_labs]
theorem idle_insD (h : C.ok) (ht : t < C.tiles.length) (hT : 0 ≤ T ∧ T ≤ 65535) (k : Nat) : insD (idleC C A c t T) k = insD C k := by
  unfold insD dv
  rw [idle_dL h ht hT]
  rfl
theorem idle_outsD (h : C.ok) (ht : t < C.tiles.length) (hT : 0 ≤ T ∧ T ≤ 65535) : outsD (idleC C A c t T) = outsD C := by
  unfold outsD dv
  rw [idle_dL h ht hT]
  rfl
end
theorem ok_of_dE {C : Cfg} (h : dE C = 0) : C.ok := by
  unfold dE at h
  by_cases hk : C.ok
  · exact hk
  · rw [if_neg hk] at h; exact absurd h (by decide)
/-- what blocks are, from what they tell -/
theorem plain_at {C : Cfg} {P : PK} (h : P.plain = packD C) : P.I = (C.ins.length : Int) ∧ P.bs.length = C.tiles.length ∧ P.outs = outsD C ∧ ∀ k (hk : k < P.bs.length), P.bs[k].plain = blkD C k := by
  simp only [PK.plain, packD, Prod.mk.injEq] at h
  obtain ⟨h1, h2, h3⟩ := h
  have hl : P.bs.length = C.tiles.length := by have := congrArg List.length h2; simpa using this
  refine ⟨h1, hl, h3, fun k hk => ?_⟩
  have := congrArg (fun l => l[k]?) h2
  simp only [List.getElem?_map, List.getElem?_eq_getElem hk, List.getElem?_range (show k < C.tiles.length by omega), Option.map_some, Option.some.injEq] at this
  exact this
section
variable {C : Cfg} {A : Option Addr} {c t : Nat} {T : Int}
theorem idle_blk (h : C.ok) (ht : t < C.tiles.length) (hT : 0 ≤ T ∧ T ≤ 65535) {k : Nat} (hk : k < C.tiles.length) : (blkD (idleC C A c t T) k).1 = (blkD C k).1 ∧ (blkD (idleC C A c t T) k).2.2 = (blkD C k).2.2 ∧ (k ≠ t → blkD (idleC C A c t T) k = blkD C k) := by
  unfold blkD
  rw [idle_insD h ht hT, idle_tile hk]
  refine ⟨rfl, ?_, fun hne => by rw [if_neg (Ne.symm hne)]⟩
  by_cases e : t = k
  · subst e; rw [if_pos rfl]
  · rw [if_neg e]
theorem idle_twin (h : C.ok) (ht : t < C.tiles.length) (hT : 0 ≤ T ∧ T ≤ 65535) {P Q : PK} (hP : P.plain = packD C) (hQ : Q.plain = packD (idleC C A c t T))
    (hidle : ∀ b ∈ P.bs, ∀ x ∈ b.l, x ≠ P.I + (t : Int)) (hout : ∀ x ∈ P.outs, x ≠ P.I + (t : Int)) : Twin P Q t := by
  obtain ⟨a1, a2, a3, a4⟩ := plain_at hP
  obtain ⟨b1, b2, b3, b4⟩ := plain_at hQ
  rw [idle_len] at b2
  have en : P.bs.length = Q.bs.length := by omega
  have key : ∀ k (hk : k < P.bs.length) (hk' : k < Q.bs.length), P.bs[k].l = Q.bs[k].l ∧ P.bs[k].ff = Q.bs[k].ff ∧ P.bs[k].it = Q.bs[k].it ∧ (k ≠ t → P.bs[k].t = Q.bs[k].t) := fun k hk hk' => by
    have e1 := a4 k hk
    have e2 := b4 k hk'
    obtain ⟨c1, c2, c3⟩ := idle_blk (A := A) (c := c) h ht hT (show k < C.tiles.length by omega)
    have f1 := congrArg Prod.fst e1
    have f2 := congrArg Prod.fst e2
    have g1 := congrArg (fun x => x.2.2) e1
    have g2 := congrArg (fun x => x.2.2) e2
    simp only [BL.plain] at f1 f2 g1 g2
    rw [c1] at f2
    rw [c2] at g2
    have gg := g1.trans g2.symm
    simp only [Prod.mk.injEq] at gg
    refine ⟨f1.trans f2.symm, gg.1, gg.2, fun hne => ?_⟩
    rw [c3 hne] at e2
    have := congrArg (fun x => x.2.1) (e1.trans e2.symm)
    exact this
  have hff : ∀ k, ffAt P.bs k = ffAt Q.bs k := fun k => by
    by_cases hk : k < P.bs.length
    · rw [ffAt_get hk, ffAt_get (by omega)]; exact (key k hk (by omega)).2.1
    · unfold ffAt; rw [List.getElem?_eq_none (by omega), List.getElem?_eq_none (by omega)]
  refine ⟨by rw [a1, b1]; rfl, en, by rw [a3, b3, idle_outsD h ht hT], fun k => ?_, fun k hne => ?_, hff, fun k => ?_, ?_, fun k x hx => ?_, hout⟩
  · by_cases hk : k < P.bs.length
    · rw [inL_get hk, inL_get (show k < Q.bs.length by omega)]; exact (key k hk (by omega)).1
    · unfold inL; rw [List.getElem?_eq_none (by omega), List.getElem?_eq_none (by omega)]
  · by_cases hk : k < P.bs.length
    · rw [tAt_get hk, tAt_get (show k < Q.bs.length by omega)]; exact (key k hk (by omega)).2.2.2 hne
    · unfold tAt; rw [List.getElem?_eq_none (by omega), List.getElem?_eq_none (by omega)]
  · by_cases hk : k < P.bs.length
    · rw [itAt_get hk, itAt_get (show k < Q.bs.length by omega)]; exact (key k hk (by omega)).2.2.1
    · unfold itAt; rw [List.getElem?_eq_none (by omega), List.getElem?_eq_none (by omega)]
  · unfold PK.flops flopTo
    rw [en, show ffAt P.bs = ffAt Q.bs from funext hff]
  · by_cases hk : k < P.bs.length
    · rw [inL_get hk] at hx
      exact hidle _ (List.getElem_mem hk) x hx
    · unfold inL at hx; rw [List.getElem?_eq_none (by omega)] at hx; simp at hx
theorem pow_cast (n : Nat) : ((2 : Int) ^ 2 ^ n) = ((2 ^ 2 ^ n : Nat) : Int) := by simp
theorem pack_tab {D : Cfg} {Q : PK} (h : Q.plain = packD D) : ∀ b ∈ Q.bs, 0 ≤ b.t ∧ b.t < 2 ^ 2 ^ b.l.length := fun b hb => by
  obtain ⟨k, hk, rfl⟩ := List.getElem_of_mem hb
  have e := (plain_at h).2.2.2 k hk
  have e1 := congrArg Prod.fst e
  have e2 := congrArg (fun x => x.2.1) e
  simp only [BL.plain, blkD] at e1 e2
  rw [e1, e2, pow_cast]
  refine ⟨by omega, Int.ofNat_lt.2 ?_⟩
  rw [show (natI (ipL (insD D k) 4)).length = (kpL (insD D k) 4).length by rw [← ipL_len]; simp [natI]]
  exact blockT_lt _ _
theorem Twin.may {P Q : PK} (h : Twin P Q t) (hm : P.may) (hq : ∀ b ∈ Q.bs, 0 ≤ b.t ∧ b.t < 2 ^ 2 ^ b.l.length) : Q.may := by
  have eN : P.N = Q.N := by unfold PK.N; rw [h.i, h.n]
  refine ⟨by rw [← h.i]; exact hm.1, by rw [← h.i]; exact hm.2.1, by rw [← h.n]; exact hm.2.2.1, fun b hb => ?_, by rw [← eN, ← h.outs]; exact hm.2.2.2.2⟩
  have ht := hq b hb
  obtain ⟨k, hk, rfl⟩ := List.getElem_of_mem hb
  have hk' : k < P.bs.length := by rw [h.n]; exact hk
  have hb := hm.2.2.2.1 _ (List.getElem_mem hk')
  have e1 := h.ins k
  have e2 := h.ff k
  have e3 := h.it k
  rw [inL_get hk, inL_get hk'] at e1
  rw [ffAt_get hk, ffAt_get hk'] at e2
  rw [itAt_get hk, itAt_get hk'] at e3
  unfold BL.ok at hb ⊢
  rw [← eN, ← e1, ← e2, ← e3]
  rw [← e1] at ht
  exact ⟨hb.1, hb.2.1, hb.2.2.1, ht.1, ht.2⟩
/-- what Read tells, once it tells no error -/
theorem read_zero {P : PK} (h : ReadR C P 0) : C.ok ∧ dE C = 0 ∧ ¬ (outsD C).any (fun o => decide (o < 0)) = true ∧ P.plain = packD C ∧ ChkR P 0 := by
  unfold ReadR at h
  by_cases h1 : dE C = 0
  case neg => rw [if_pos h1] at h; exact absurd h.symm h1
  rw [if_neg (by simp [h1])] at h
  by_cases h2 : (outsD C).any (fun o => decide (o < 0)) = true
  case pos => rw [if_pos h2] at h; exact absurd h (by decide)
  rw [if_neg h2] at h
  obtain ⟨Q, hq, hc, hp⟩ := h
  exact ⟨ok_of_dE h1, h1, h2, hp rfl, hc.plain (hq.trans (hp rfl).symm)⟩
theorem read_next {P : PK} {y : Int} (h1 : dE C = 0) (h2 : ¬ (outsD C).any (fun o => decide (o < 0)) = true) (h : ReadR C P y) : ∃ Q : PK, Q.plain = packD C ∧ ChkR Q y ∧ (y = 0 → P.plain = packD C) := by
  unfold ReadR at h
  rwa [if_neg (by simp [h1]), if_neg h2] at h
theorem idle_run {P : PK} (hP : ReadR C P 0) (ht : t < C.tiles.length) (hT : 0 ≤ T ∧ T ≤ 65535) (hidle : ∀ b ∈ P.bs, ∀ x ∈ b.l, x ≠ (C.ins.length : Int) + (t : Int)) (hout : ∀ x ∈ P.outs, x ≠ (C.ins.length : Int) + (t : Int))
    {L rs rs' : List (List Bool)} {x x' : Int} (h1 : CRunR C L rs x) (h2 : CRunR (idleC C A c t T) L rs' x') : x = x' ∧ rs = rs' := by
  obtain ⟨hok, hd, ho, hpl, hck⟩ := read_zero hP
  obtain ⟨P1, y1, hr1, k1⟩ := h1
  obtain ⟨P2, y2, hr2, k2⟩ := h2
  obtain ⟨Q1, q1, c1, e1⟩ := read_next hd ho hr1
  have hy1 : y1 = 0 := (c1.plain (q1.trans hpl.symm)).one hck
  subst hy1
  have p1 := e1 rfl
  have pp : P.plain = P1.plain := hpl.trans p1.symm
  have ck1 := hck.plain pp
  obtain ⟨hm1, O, hO⟩ : P1.may ∧ ∃ m, All (depE P1.E) P1.S m := by
    rcases ck1 with ⟨-, a, b⟩ | ⟨a, -⟩ | ⟨a, -⟩
    · exact ⟨a, b⟩
    · exact absurd a (by decide)
    · exact absurd a (by decide)
  obtain ⟨a1, -, a3, -⟩ := plain_at p1
  have ppp := pp
  simp only [PK.plain, Prod.mk.injEq] at ppp
  have hid1 : ∀ b ∈ P1.bs, ∀ x ∈ b.l, x ≠ P1.I + (t : Int) := fun b hb x hx => by
    obtain ⟨b0, hb0, he⟩ := List.mem_map.1 (show BL.plain b ∈ P.bs.map BL.plain by rw [ppp.2.1]; exact List.mem_map.2 ⟨b, hb, rfl⟩)
    have hl : b0.l = b.l := congrArg Prod.fst he
    rw [a1]
    exact hidle b0 hb0 x (by rw [hl]; exact hx)
  have hou1 : ∀ x ∈ P1.outs, x ≠ P1.I + (t : Int) := fun x hx => by
    rw [a1]; exact hout x (by rw [ppp.2.2]; exact hx)
  obtain ⟨Q2, q2, c2, e2⟩ := read_next (by rw [idle_dE hok ht hT]; exact hd) (by rw [idle_outsD hok ht hT]; exact ho) hr2
  have tq := idle_twin hok ht hT p1 q2 hid1 hou1
  have hmq := tq.may hm1 (pack_tab q2)
  have cq : ChkR Q2 0 := .inl ⟨rfl, hmq, O, by rw [← tq.E, ← tq.S]; exact hO⟩
  have hy2 : y2 = 0 := c2.one cq
  subst hy2
  have p2 := e2 rfl
  have tw := idle_twin hok ht hT p1 p2 hid1 hou1
  have hm2 := tw.may hm1 (pack_tab p2)
  have r1 := (k1.resolve_left (fun h => h.1 rfl)).2
  have r2 := (k2.resolve_left (fun h => h.1 rfl)).2
  exact tw.run hm1 hm2 hO r1 r2
end
end Go.Proofs.YtoloaecbfglaeaaGreat
