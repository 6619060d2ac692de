/- The law ChipBytes: what was written as bytes, and read, does the same. -/
import Derived.Test.YtoloaecbfglaeaaGreatFrame
import Derived.Test.YtoloaecbfglaeaaGreatLWhat
import Derived.Test.YtoloaecbfglaeaaGreatLive32
import Derived.Test.YtoloaecbfglaeaaGreatIdleC
import Derived.Test.YtoloaecbfglaeaaGreatOpenR
import Derived.Test.YtoloaecbfglaeaaGreatP31
import Derived.Test.YtoloaecbfglaeaaGreatGetA
import Derived.Test.YtoloaecbfglaeaaGreatRchkB

namespace Go.Proofs.YtoloaecbfglaeaaGreat
open Go.ChangeShapes Go.WideShapes Go.ChangeAt Go.RowKit Go.Joins Go.Deep Topo
set_option linter.unusedVariables false
set_option linter.unusedSimpArgs false

theorem twin_same {P Q : PK} (h : P.plain = Q.plain) (hm : P.may) : Twin P Q P.bs.length := by
  have h' := h
  simp only [PK.plain, Prod.mk.injEq] at h'
  obtain ⟨hi, hb, ho⟩ := h'
  have hn : P.bs.length = Q.bs.length := by have := congrArg List.length hb; simpa using this
  have hk : ∀ k, P.bs[k]?.map BL.plain = Q.bs[k]?.map BL.plain := fun k => by rw [← List.getElem?_map, ← List.getElem?_map, hb]
  have hin : ∀ k, inL P.bs k = inL Q.bs k := fun k => by
    have := hk k
    unfold inL
    cases hp : P.bs[k]? <;> cases hq : Q.bs[k]? <;> rw [hp, hq] at this <;> simp [BL.plain] at this ⊢
    exact this.1
  have hta : ∀ k, tAt P.bs k = tAt Q.bs k := fun k => by
    have := hk k
    unfold tAt
    cases hp : P.bs[k]? <;> cases hq : Q.bs[k]? <;> rw [hp, hq] at this <;> simp [BL.plain] at this ⊢
    exact this.2.1
  have hff : ∀ k, ffAt P.bs k = ffAt Q.bs k := fun k => by
    have := hk k
    unfold ffAt
    cases hp : P.bs[k]? <;> cases hq : Q.bs[k]? <;> rw [hp, hq] at this <;> simp [BL.plain] at this ⊢
    exact this.2.2.1
  have hit : ∀ k, itAt P.bs k = itAt Q.bs k := fun k => by
    have := hk k
    unfold itAt
    cases hp : P.bs[k]? <;> cases hq : Q.bs[k]? <;> rw [hp, hq] at this <;> simp [BL.plain] at this ⊢
    exact this.2.2.2
  refine ⟨hi, hn, ho, hin, fun k _ => hta k, hff, hit, ?_, fun k x hx => ?_, fun x hx => ?_⟩
  · unfold PK.flops flopTo; rw [hn]; exact List.filter_congr (fun k _ => hff k)
  · have := (may_in hm hx).2; unfold PK.N at this; omega
  · have := (any_bad_no hm.2.2.2.2 x hx).2; unfold PK.N at this; omega

/-- what a configuration does hangs on no place in memory -/
theorem same_run {C D : Cfg} (h : sameP C D) {L rs rs' : List (List Bool)} {x x' : Int} (h1 : CRunR C L rs x) (h2 : CRunR D L rs' x') : x = x' ∧ rs = rs' := by
  obtain ⟨P1, y1, r1, k1⟩ := h1
  obtain ⟨P2, y2, r2, k2⟩ := h2
  have hR : ReadR C P2 y2 := by
    obtain ⟨W, H, T, AT, cT, tiles, AO, cO, on, AI, cI, ins, AU, cU, outs⟩ := C
    obtain ⟨W', H', T', AT', cT', tiles', AO', cO', on', AI', cI', ins', AU', cU', outs'⟩ := D
    obtain ⟨⟨a, b, c⟩, d, e, f, g⟩ := h
    simp only at a b c d e f g
    subst a b c d e f g
    exact r2
  clear r2
  by_cases hd : dE C = 0
  case neg =>
    unfold ReadR at r1 hR
    rw [if_pos hd] at r1 hR
    subst r1 hR
    rcases k1 with ⟨-, rfl, rfl⟩ | ⟨h0, -⟩
    · rcases k2 with ⟨-, rfl, rfl⟩ | ⟨h0, -⟩
      · exact ⟨rfl, rfl⟩
      · exact absurd h0 hd
    · exact absurd h0 hd
  by_cases ho : (outsD C).any (fun o => decide (o < 0)) = true
  case pos =>
    unfold ReadR at r1 hR
    rw [if_neg (by simp [hd]), if_pos ho] at r1 hR
    subst r1 hR
    rcases k1 with ⟨-, rfl, rfl⟩ | ⟨h0, -⟩
    · rcases k2 with ⟨-, rfl, rfl⟩ | ⟨h0, -⟩
      · exact ⟨rfl, rfl⟩
      · exact absurd h0 (by decide)
    · exact absurd h0 (by decide)
  obtain ⟨Q1, q1, c1, e1⟩ := read_next hd ho r1
  obtain ⟨Q2, q2, c2, e2⟩ := read_next hd ho hR
  obtain rfl : y1 = y2 := (c1.plain (q1.trans q2.symm)).one c2
  rcases k1 with ⟨hn, rfl, rfl⟩ | ⟨rfl, k1⟩
  · rcases k2 with ⟨-, rfl, rfl⟩ | ⟨h0, -⟩
    · exact ⟨rfl, rfl⟩
    · exact absurd h0 hn
  rcases k2 with ⟨h0, -⟩ | ⟨-, k2⟩
  · exact absurd rfl h0
  have p1 := e1 rfl
  have p2 := e2 rfl
  obtain ⟨hm1, O, hO⟩ : P1.may ∧ ∃ m, All (depE P1.E) P1.S m := by
    rcases c1.plain (q1.trans p1.symm) with ⟨-, a, b⟩ | ⟨a, -⟩ | ⟨a, -⟩
    · exact ⟨a, b⟩
    · exact absurd a (by decide)
    · exact absurd a (by decide)
  have tw := twin_same (p1.trans p2.symm) hm1
  exact tw.run hm1 (tw.may hm1 (pack_tab p2)) hO k1 k2

def pB32 (C : Cfg) : List Nat := if C.ok then C.bytes else []
def pE32 (C : Cfg) : Int := if C.ok then 0 else 1
def BytesPair32 (L : List Nat) (x : Int) (w : World) (e : Ending) (w' : World) : Prop :=
  ∃ A c, e = .returned (.tuple #[.slice A L.length c, .int .i64 x]) ∧ Below w.heap.size w w' ∧ Rd w' 1 A L.length c (bys L) ∧ c ≤ maxLen
theorem own_cap32 {w : World} {base : Nat} {e : TypeId} {size n c : Nat} {A : Option Addr} {xs : List Value} (h : w.ownsRow base e size (.slice A n c) n xs) : c ≤ maxLen := by
  rcases h.2 with ⟨hv, hn⟩ | ⟨g, cap, cur, hv, hg, hh, hc, hm, -⟩
  · injection hv with _ _ h3; subst h3; unfold maxLen; omega
  · injection hv with _ _ h3; subst h3; exact hm
theorem bput_pair32 (C : Cfg) (w : World) (hin : C.In w) (hf : C.few) : BPUT C w (BytesPair32 (pB32 C) (pE32 C) w) := by
  unfold pB32 pE32
  by_cases h : C.ok
  · rw [if_pos h, if_pos h]
    refine Calls.mono (bput_yes C w hin hf h) fun e w' hd => ?_
    obtain ⟨A, c, rfl, hb, ho⟩ := hd
    exact ⟨A, c, rfl, hb, Rd.of_own ho, own_cap32 ho⟩
  · rw [if_neg h, if_neg h]
    refine Calls.mono (bput_no C w hin hf h) fun e w' hd => ?_
    obtain ⟨rfl, hb⟩ := hd
    exact ⟨none, 0, rfl, hb, Rd.empty, Nat.zero_le _⟩
theorem bytes_small32 {C : Cfg} (h : few32 C) : C.bytes.length ≤ 4000 := by
  show (putB C.W C.H C.T C.tiles C.on C.ins C.outs).length ≤ 4000
  rw [putB_len]
  unfold few32 at h
  omega
def GotIs32 (l : List Nat) (D : Cfg) : Prop := getE l = 0 → Told l D
def none32 : Cfg := ⟨0, 0, 0, none, 0, [], none, 0, [], none, 0, [], none, 0, []⟩
theorem none32_in (w : World) : none32.In w := ⟨Rd.empty, Rd.empty, Rd.empty, Rd.empty⟩
theorem bget_pair32 (A : Option Addr) (n c : Nat) (l : List Nat) (w : World) (hr : Rd w 1 A n c (bys l)) (hl : ∀ x ∈ l, x < 256) (hn : n ≤ 5000) (hc : c ≤ maxLen) (h0 : getE l = 0) :
    Calls Tryz.prog 21 #[.slice A n c] w (fun e w' => ∃ D : Cfg, e = .returned (.tuple #[.agg #[.int .i64 D.W, .int .i64 D.H, .int .i64 D.T, .slice D.AT D.tiles.length D.cT, .slice D.AO D.on.length D.cO, .slice D.AI D.ins.length D.cI, .slice D.AU D.outs.length D.cU], .int .i64 0]) ∧ Told l D ∧ Below w.heap.size w w' ∧ D.In w') :=
  Calls.mono (bget_any A n c l w hr hl hn hc) fun e w' h => by
    obtain ⟨hb, (⟨hne, rfl⟩ | ⟨he, C, hT, hin, rfl⟩)⟩ := h
    · exact absurd h0 hne
    · exact ⟨C, rfl, hT, hb, hin⟩

set_option maxRecDepth 100000 in
set_option maxHeartbeats 8000000 in
theorem chipBytes_walk (C : Cfg) (RA : Option Addr) (rc : Nat) (L : List BR) (w : World) (hin : C.In w) (hwf : C.wf) (hL : RowsIn RA rc L w) (hn : L.length ≤ maxLen) (hb : ∀ b ∈ L, b.l.length ≤ maxLen) :
    Calls Tryz.prog 6 #[.agg #[.int .i64 C.W, .int .i64 C.H, .int .i64 C.T, .slice C.AT C.tiles.length C.cT, .slice C.AO C.on.length C.cO, .slice C.AI C.ins.length C.cI, .slice C.AU C.outs.length C.cU], .slice RA L.length rc] w fun e w' => e = .returned (.bool true) ∧ Below w.heap.size w w' := by
  have X0 := Lib.hid (Blk.made w 28 C.cells)
  have Q0 := Lib.hid (below_new w (.cells #[.int .i64 C.W, .int .i64 C.H, .int .i64 C.T, .slice C.AT C.tiles.length C.cT, .slice C.AO C.on.length C.cO, .slice C.AI C.ins.length C.cI, .slice C.AU C.outs.length C.cU] 28))
  have HIN := Lib.hid hin
  have HL := Lib.hid hL
  have HB := Lib.hid hb
  have HN := Lib.hid hn
  clear hin hL hb hn
  go_enter Tryz.func6, Tryz.ntmps6
  go_wp2_with fail
  refine (live32_any _).mono ?_
  rintro e w1 ⟨rfl, hb1⟩
  have Q1 := Lib.hid (below_then Q0.out hb1)
  have X1 := Lib.hid (X0.out.keep hb1)
  clear hb1
  have k0 := X1.out.cell 0
  have k1 := X1.out.cell 1
  have k2 := X1.out.cell 2
  have k3 := X1.out.cell 3
  have k4 := X1.out.cell 4
  have k5 := X1.out.cell 5
  have k6 := X1.out.cell 6
  by_cases hs : few32 C
  case neg =>
    go_wp2_with fail
    refine (few32_no _ _ hs).mono ?_
    rintro e w2 ⟨rfl, hb2⟩
    have Q2 := Lib.hid (below_then Q1.out hb2)
    clear hb2
    go_wp2_with fail
    go_ret
    exact ⟨rfl, Q2.out⟩
  have HS := Lib.hid hs
  go_wp2_with fail
  refine (few32_yes _ _ HS.out).mono ?_
  rintro e w2 ⟨rfl, hb2⟩
  have Q2 := Lib.hid (below_then Q1.out hb2)
  have X2 := Lib.hid (X1.out.keep hb2)
  clear hb2 k0 k1 k2 k3 k4 k5 k6 hs X1 Q1 X0 Q0
  have hfr := fewRows_any w2 RA rc L 20 (HL.out.later Q2.out) HN.out (by decide) HB.out
  have HFR := Lib.hid hfr
  clear hfr
  by_cases hr : fewR L 20
  case neg =>
    have hfr := HFR.out
    rw [decide_eq_false hr] at hfr
    have HFR2 := Lib.hid hfr
    clear hfr hr
    go_wp2_with fail
    refine HFR2.out.mono ?_
    rintro e w3 ⟨rfl, rfl⟩
    go_wp2_with fail
    go_ret
    exact ⟨rfl, Q2.out⟩
  have hfr := HFR.out
  rw [decide_eq_true hr] at hfr
  have HFR2 := Lib.hid hfr
  have HR := Lib.hid hr
  have k0 := X2.out.cell 0
  have k1 := X2.out.cell 1
  have k2 := X2.out.cell 2
  have k3 := X2.out.cell 3
  have k4 := X2.out.cell 4
  have k5 := X2.out.cell 5
  have k6 := X2.out.cell 6
  clear hfr hr
  have hp := bput_pair32 C w2 (HIN.out.later Q2.out) (few32_few HS.out)
  simp only [BPUT] at hp
  by_cases hok : C.ok
  case neg =>
    rw [show pB32 C = [] from if_neg hok, show pE32 C = 1 from if_neg hok] at hp
    have HP := Lib.hid hp
    have hk := fun (W : World) (hB : Below w.heap.size w W) => rcheck31_any C W (HIN.out.later hB) (few32_few HS.out)
    rw [show C.E = 1 from if_neg hok] at hk
    simp only [RCH] at hk
    have HK := Lib.hid hk
    clear hp hk
    go_wp2_with fail
    refine HFR2.out.mono ?_
    rintro e w3 ⟨rfl, rfl⟩
    go_wp2_with fail
    refine HP.out.mono ?_
    rintro e w4 ⟨A4, c4, rfl, hb4, R4, hc4⟩
    have Q4 := Lib.hid (below_then Q2.out hb4)
    have X4 := Lib.hid (X2.out.keep hb4)
    clear hb4 k0 k1 k2 k3 k4 k5 k6 R4
    have k0 := X4.out.cell 0
    have k1 := X4.out.cell 1
    have k2 := X4.out.cell 2
    have k3 := X4.out.cell 3
    have k4 := X4.out.cell 4
    have k5 := X4.out.cell 5
    have k6 := X4.out.cell 6
    go_wp2_with fail
    refine (HK.out _ Q4.out).mono ?_
    rintro e w5 ⟨rfl, hb5⟩
    have Q5 := Lib.hid (below_then Q4.out hb5)
    clear hb5
    go_wp2_with fail
    go_ret
    exact ⟨rfl, Q5.out⟩
  rw [show pB32 C = C.bytes from if_pos hok, show pE32 C = 0 from if_pos hok] at hp
  have HP := Lib.hid hp
  clear hp
  have s1 : C.ins.length < 65536 := by have := HS.out; unfold few32 at this; omega
  have s2 : C.outs.length < 65536 := by have := HS.out; unfold few32 at this; omega
  have hgp := get_put hok s1 s2
  have h4k := bytes_small32 HS.out
  have hlt := Lib.hid (bytes_lt hok)
  have hG2 := Lib.hid hgp.2
  have hG1 := Lib.hid hgp.1
  clear hgp s1 s2 hok
  obtain ⟨hr1, hr2⟩ := HR.out
  have hr3 : L.length ≤ 1000 := by omega
  have hr4 : ∀ b ∈ L, b.l.length ≤ 100000 := fun b hb => by have := hr1 b hb; omega
  have HR3 := Lib.hid hr3
  have HR4 := Lib.hid hr4
  clear hr1 hr2 hr3 hr4
  generalize hLB : C.bytes = LB at HP h4k hlt hG2 hG1
  have HLB := Lib.hid hLB
  clear hLB
  go_wp2_with fail
  refine HFR2.out.mono ?_
  rintro e w3 ⟨rfl, rfl⟩
  go_wp2_with fail
  refine HP.out.mono ?_
  rintro e w3 ⟨A3, c3, rfl, hb3, R3, hc3⟩
  have Q3 := Lib.hid (below_then Q2.out hb3)
  have X3 := Lib.hid (X2.out.keep hb3)
  have R3 := Lib.hid R3
  clear hb3 k0 k1 k2 k3 k4 k5 k6
  have hget := bget_pair32 _ LB.length c3 LB _ R3.out hlt.out (by omega) hc3 hG1.out
  have HGET := Lib.hid hget
  clear hget
  go_wp2_with fail
  refine HGET.out.mono ?_
  rintro e w4 ⟨D, rfl, hT, hb4, hD⟩
  have hsame := hG2.out D hT
  have hfD : D.few := by
    have := few32_few HS.out
    unfold Cfg.few at this ⊢
    obtain ⟨-, a, b, c, d⟩ := hsame
    rw [← a, ← b, ← c, ← d]
    exact this
  have hn4 := below_new w4 (.cells #[.int .i64 D.W, .int .i64 D.H, .int .i64 D.T, .slice D.AT D.tiles.length D.cT, .slice D.AO D.on.length D.cO, .slice D.AI D.ins.length D.cI, .slice D.AU D.outs.length D.cU] 28)
  have X4 := Lib.hid ((X3.out.keep hb4).keep hn4)
  have Q4 := Lib.hid (below_then (below_then Q3.out hb4) hn4)
  have Y4 := Lib.hid (Blk.made w4 28 #[.int .i64 D.W, .int .i64 D.H, .int .i64 D.T, .slice D.AT D.tiles.length D.cT, .slice D.AO D.on.length D.cO, .slice D.AI D.ins.length D.cI, .slice D.AU D.outs.length D.cU])
  have D4 := Lib.hid (hD.later hn4)
  have SD := Lib.hid hsame
  have FD := Lib.hid hfD
  clear hsame hfD hn4 hb4 hT hD R3
  have k0 := X4.out.cell 0
  have k1 := X4.out.cell 1
  have k2 := X4.out.cell 2
  have k3 := X4.out.cell 3
  have k4 := X4.out.cell 4
  have k5 := X4.out.cell 5
  have k6 := X4.out.cell 6
  go_wp2_with fail
  refine (chipRun_any C RA rc L _ (HIN.out.later Q4.out) (few32_few HS.out) (HL.out.later Q4.out) HR3.out HR4.out).mono ?_
  rintro e w6 ⟨A1, c1, R1, x1, rfl, hb6, hR1, -, hC1⟩
  have Q6 := Lib.hid (below_then Q4.out hb6)
  have Y6 := Lib.hid (Y4.out.keep hb6)
  have D6 := Lib.hid (D4.out.later hb6)
  have R61 := Lib.hid hR1
  have C61 := Lib.hid hC1
  clear hb6 hR1 hC1 k0 k1 k2 k3 k4 k5 k6
  have k0 := Y6.out.cell 0
  have k1 := Y6.out.cell 1
  have k2 := Y6.out.cell 2
  have k3 := Y6.out.cell 3
  have k4 := Y6.out.cell 4
  have k5 := Y6.out.cell 5
  have k6 := Y6.out.cell 6
  go_wp2_with fail
  refine (chipRun_any D RA rc L _ D6.out FD.out (HL.out.later Q6.out) HR3.out HR4.out).mono ?_
  rintro e w7 ⟨A2, c2, R2, x2, rfl, hb7, hR2, -, hC2⟩
  have Q7 := Lib.hid (below_then Q6.out hb7)
  have R71 := Lib.hid (R61.out.later hb7)
  have S7 := Lib.hid hR2
  obtain ⟨rfl, hrows⟩ := same_run SD.out C61.out hC2
  have hlen : R1.length = R2.length := by have := congrArg List.length hrows; simpa using this
  have hsame := fun (h1 : R1.length ≤ 100000000) (h2 : ∀ b ∈ R1, b.l.length ≤ 100000000) => sameRows_yes w7 A1 c1 R1 A2 c2 R2 R71.out S7.out hrows h1 h2
  have HSAME := Lib.hid hsame
  clear hb7 hR2 hC2 hrows hlen hsame k0 k1 k2 k3 k4 k5 k6
  go_wp2_with fail
  have hcl := crun_len C61.out
  have hno := HS.out.2.2.2.2.2.2
  refine (HSAME.out (by have := hcl.1; have := HR3.out; simp at *; omega) (fun b hb => by have := hcl.2 b.l (List.mem_map.2 ⟨b, hb, rfl⟩); omega)).mono ?_
  rintro e w12 ⟨rfl, hb12⟩
  have Q12 := Lib.hid (below_then Q7.out hb12)
  clear hb12 hcl
  go_wp2_with fail
  go_ret
  exact ⟨rfl, Q12.out⟩
set_option maxRecDepth 100000 in
theorem chipBytes_lifted (os : Os) (started : os.Started) (H : Type) (enc : TypeId × Value → H) :
    ReturnsInHanded {} Tryz.checked os 6 .any (Rows.chipBytesSpec.pre6 enc Tryz.prog Tryz.f6 Rows.chipBytesRow.domain false) (Rows.chipBytesSpec.post enc Tryz.prog Tryz.f6 false true false false) := by
  have hr : ∀ t ∈ Tryz.f6.params.toList, Tryz.prog.readableRec t = true ∧ t < Tryz.prog.types.size := by
    have h : Tryz.f6.params.toList.all (fun t => Tryz.prog.readableRec t && decide (t < Tryz.prog.types.size)) = true := by kernel_rfl
    intro t ht
    simpa using List.all_eq_true.1 h t ht
  refine returnsInHanded_of_change (C := Tryz.checked) own started (by kernel_rfl) Tryz.func6
    (ChangeSpec.witness6 (enc := enc) (C := Tryz.checked) false ⟨#[], #[.agg #[.int .i64 0, .int .i64 0, .int .i64 0, .slice none 0 0, .slice none 0 0, .slice none 0 0, .slice none 0 0], .slice none 0 0], []⟩ 8 (by kernel_rfl) (by kernel_rfl) (by kernel_rfl) (by kernel_rfl)) ?_
  intro W base args ds gs before hval0 hW hcnd _
  have hval : ∀ (j : Nat) t v, Tryz.f6.params[j]? = some t → args[j]? = some v → Value.okWide Tryz.prog W .any base t v := hval0
  have hW' := hW
  obtain ⟨p, q, hA0, hV, rfl, hfz, hnd⟩ := hW
  have hA1 : DataW.TrodAll enc Tryz.prog W 0 (fun _ => true) true Tryz.f6.params.toList args.toList ds p := hA0
  have hA := hA1
  rw [Tryz.params6] at hA hval
  obtain ⟨v0, vs0, d0, ds0, p0, q0, hargs, rfl, rfl, h0, r0⟩ := trodAll_cons hA
  obtain ⟨v1, vs1, d1, ds1, p1, q1, rfl, rfl, rfl, h1, r1⟩ := trodAll_cons r0
  obtain ⟨rfl, rfl, rfl⟩ := trodAll_nil r1
  obtain rfl : args = #[v0, v1] := by cases args; simp_all
  obtain ⟨rfl, rfl⟩ := trodVars_none hV
  obtain ⟨C0, rfl, hin0, hwf0⟩ := open_cfg (hval 0 28 v0 rfl rfl) h0
  obtain ⟨A1, c1, L1, rfl, hr1, hn1, hb1⟩ := open_rows (hval 1 42 v1 rfl rfl) h1
  clear hA0 hval0
  simp only [List.append_nil] at hW'
  simp only [List.append_nil] at hA1
  refine (chipBytes_walk C0 A1 c1 L1 W hin0 hwf0 hr1 hn1 hb1).mono fun e W' ⟨he, hb⟩ => ?_
  subst he
  exact ⟨_, rfl, law_post laidOut hr rfl hW' hA1 rfl rfl Tryz.underlying4 hb⟩

theorem chipBytes_over : Rows.chipBytesRow.holds Tryz.pinned (OpenSpec.ofChange Rows.chipBytesSpec) :=
  OpenClaim.holds_of_wide 6 Tryz.f6 rfl rfl rfl rfl rfl rfl rfl ⟨rfl, rfl, rfl, rfl, rfl⟩ rfl rfl rfl rfl rfl (by kernel_rfl) Tryz.func6 (by kernel_rfl)
    (of_decide_eq_true (by kernel_rfl)) (by unfold Func.isWrapper; first | (rw [if_pos (by decide +kernel)]; kernel_rfl) | (rw [if_neg (by decide +kernel)]; exact ⟨rfl, rfl⟩))
    (fun os started H enc _ => chipBytes_lifted os started H enc)

theorem chipBytes_holds : Rows.ChipBytesSaid := chipBytes_over
#print axioms chipBytes_holds
end Go.Proofs.YtoloaecbfglaeaaGreat
