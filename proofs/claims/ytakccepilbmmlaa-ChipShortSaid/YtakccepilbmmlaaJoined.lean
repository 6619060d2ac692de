/- Walk of filigree/chip.Joined: which nodes are joined. -/
import Derived.Test.YtakccepilbmmlaaLeast
import Derived.Test.YtakccepilbmmlaaBchk
import Derived.Test.YtakccepilbmmlaaLKindsA
namespace Go.Proofs.Ytakccepilbmmlaa
open Go.RowKit
set_option linter.unusedVariables false
set_option linter.unusedSimpArgs false

/-- the least node that each node is joined to -/
def joinedR (C : Cfg) : Nat → Nat := joinAll (edgesL C.W C.H C.T) C.on (edgesL C.W C.H C.T).length
def joinedL (C : Cfg) : List Nat := (List.range (nodesI C.W C.H C.T).toNat).map (joinedR C)

/-- WHAT JOINED HOLDS within its loops -/
structure JW (w0 wx : World) (C : Cfg) (AA : Option Addr) (L : List (Int × Int)) (c base g N : Nat) (S : List Nat) : Prop where
  below : Below w0.heap.size w0 wx
  box : Box7 wx w0.heap.size C
  edges : wx.ownsRow base 39 2 (.slice AA L.length c) L.length (pc L)
  sets : Sets wx g N S
  hg : w0.heap.size < g
  hd : (Value.slice AA L.length c).ownBlock ≠ some g
section
variable {w0 wx wy : World} {C : Cfg} {AA : Option Addr} {L : List (Int × Int)} {c base g N : Nat} {S S' : List Nat}
theorem JW.keep (h : JW w0 wx C AA L c base g N S) (hb : Below wx.heap.size wx wy) : JW w0 wy C AA L c base g N S :=
  ⟨below_then h.below hb, h.box.below hb, own_keep h.edges hb, ⟨own_keep h.sets.row hb, h.sets.down⟩, h.hg, h.hd⟩
theorem own_kept {w w' : World} {base : Nat} {e : TypeId} {size n g : Nat} {v : Value} {xs : List Value} (h : w.ownsRow base e size v n xs) (hg : w.grownBy w' (some g)) (hd : v.ownBlock ≠ some g) : w'.ownsRow base e size v n xs :=
  h.kept hg (.inr hd)
theorem JW.turned (h : JW w0 wx C AA L c base g N S) (hs : Sets wy g N S') (hg : wx.grownBy wy (some g)) : JW w0 wy C AA L c base g N S' := by
  have hx := h.box
  have hgn := h.hg
  have hc : ∀ j : Nat, wy.cell? ⟨w0.heap.size, j, none⟩ = wx.cell? ⟨w0.heap.size, j, none⟩ := fun j =>
    World.cell?_of_block (w := wx) (hg.block w0.heap.size hx.lt (fun e => by injection e; omega))
  exact ⟨h.below.grown hg h.below.size (fun k hk => by injection hk; omega), ⟨Nat.lt_of_lt_of_le hx.lt hg.size, (hc 0).trans hx.c0, (hc 1).trans hx.c1, (hc 2).trans hx.c2, (hc 3).trans hx.c3, (hc 4).trans hx.c4, (hc 5).trans hx.c5, (hc 6).trans hx.c6⟩,
    own_kept h.edges hg h.hd, hs, h.hg, h.hd⟩
end
/-- each node leading to itself, the first k of them -/
def firstL (N k : Nat) : List Nat := (List.range N).map fun j => if j < k then j else 0
theorem firstL_zero (N : Nat) : firstL N 0 = List.replicate N 0 := by
  apply List.ext_getElem?
  intro j
  simp only [firstL, List.getElem?_map, List.getElem?_range, List.getElem?_replicate, Nat.not_lt_zero, if_false]
  by_cases h : j < N
  · simp [List.getElem?_range, h]
  · simp [h]
theorem firstL_getD (N k : Nat) {j : Nat} (h : j < N) : (firstL N k).getD j 0 = if j < k then j else 0 := by
  simp [firstL, List.getD_eq_getElem?_getD, List.getElem?_range, h]
theorem firstL_set (N k : Nat) (h : k < N) : (firstL N k).set k k = firstL N (k + 1) := by
  apply List.ext_getElem?
  intro j
  rw [List.getElem?_set]
  by_cases e : k = j
  · subst e
    rw [if_pos rfl, if_pos (by simp [firstL]; exact h)]
    simp [firstL, List.getElem?_range, h]
  · rw [if_neg e]
    simp only [firstL, List.getElem?_map]
    by_cases hj : j < N
    · simp only [List.getElem?_range hj, Option.map_some, Option.some.injEq]
      by_cases h1 : j < k
      · rw [if_pos h1, if_pos (by omega)]
      · rw [if_neg h1, if_neg (by omega)]
    · rw [List.getElem?_eq_none (by simp; omega)]
      rfl
def JND (C : Cfg) (w : World) (R : Ending → World → Prop) : Prop :=
  Calls Try.prog 16 #[.agg #[.int .i64 C.W, .int .i64 C.H, .int .i64 C.T, .slice C.AT C.tiles.length C.cT, .slice C.AO C.on.length C.cO, .slice C.AI C.ins.length C.cI, .slice C.AU C.outs.length C.cU]] w R
/-- what Joined leaves -/
def JoinedOut (C : Cfg) (w : World) (e : Ending) (w' : World) : Prop :=
  ∃ g N, e = .returned (.tuple #[.slice (some ⟨g, 0, none⟩) N N, .int .i64 0]) ∧ nodesI C.W C.H C.T = (N : Int) ∧ w.heap.size ≤ g ∧ Below w.heap.size w w' ∧ w'.ownsRow g 3 1 (.slice (some ⟨g, 0, none⟩) N N) N (nats (joinedL C))
/-- the ends, so far as they were told -/
def partEnds (N : Nat) (f : Nat → Nat) (S : List Nat) : Prop := ∀ i, i < N → root S i = f i

set_option maxRecDepth 100000 in
set_option maxHeartbeats 1000000 in
theorem joined_no (C : Cfg) (w : World) (hin : C.In w) (hf : C.few) (h : ¬ C.ok) : JND C w fun e w' => e = .returned (.tuple #[.slice none 0 0, .int .i64 1]) ∧ Below w.heap.size w w' := by
  unfold JND
  have hE : C.E = 1 := if_neg h
  have HE := Lib.hid hE
  have hin1 := hin.later (below_new w (.cells #[.int .i64 C.W, .int .i64 C.H, .int .i64 C.T, .slice C.AT C.tiles.length C.cT, .slice C.AO C.on.length C.cO, .slice C.AI C.ins.length C.cI, .slice C.AU C.outs.length C.cU] 28))
  have hb := bcheck_any C _ hin1 hf
  unfold BCH at hb
  rw [hE] at hb
  have HB := Lib.hid hb
  have Q0 := below_new w (.cells #[.int .i64 C.W, .int .i64 C.H, .int .i64 C.T, .slice C.AT C.tiles.length C.cT, .slice C.AO C.on.length C.cO, .slice C.AI C.ins.length C.cI, .slice C.AU C.outs.length C.cU] 28)
  clear hE hb hin1
  go_enter Try.func16, Try.ntmps16
  go_wp2_with fail
  refine (HB.out).mono ?_
  rintro e w1 ⟨rfl, hb1⟩
  have Q1 := below_then Q0 hb1
  clear hb1
  go_wp2_with fail
  go_ret2
  exact ⟨rfl, Q1⟩

set_option maxRecDepth 100000 in
set_option maxHeartbeats 4000000 in
theorem joined_yes (C : Cfg) (w : World) (hin : C.In w) (hf : C.few) (h : C.ok) : JND C w (JoinedOut C w) := by
  unfold JND
  have hE : C.E = 0 := if_pos h
  have hok := h.1
  have hin1 := hin.later (below_new w (.cells #[.int .i64 C.W, .int .i64 C.H, .int .i64 C.T, .slice C.AT C.tiles.length C.cT, .slice C.AO C.on.length C.cO, .slice C.AI C.ins.length C.cI, .slice C.AU C.outs.length C.cU] 28))
  have hb := bcheck_any C _ hin1 hf
  unfold BCH at hb
  rw [hE] at hb
  have HB := Lib.hid hb
  obtain ⟨L, hL⟩ : ∃ L, edgesL C.W C.H C.T = L := ⟨_, rfl⟩
  have HL := Lib.hid hL
  have hlen : L.length ≤ 6000000 := by have := rawL_len hok; rw [← hL]; unfold edgesL; rw [sortP_length]; exact this
  have hon : C.on.length = L.length := by rw [← hL]; exact h.2.2.2.1
  have hnb := nodes_bd hok
  obtain ⟨N, hN⟩ : ∃ N : Nat, nodesI C.W C.H C.T = (N : Int) := ⟨(nodesI C.W C.H C.T).toNat, by omega⟩
  have HN := Lib.hid hN
  have hN2 : N ≤ 87040 := by omega
  have HH := Lib.hid hok
  have HI := Lib.hid hin
  have HON := Lib.hid hon
  obtain ⟨R, hR⟩ : ∃ R, JoinedOut C w = R := ⟨_, rfl⟩
  rw [hR]
  have HR := Lib.hid hR
  clear hE hb hin1 hok h hnb hN hL hin hon hR
  have Q0 := below_new w (.cells #[.int .i64 C.W, .int .i64 C.H, .int .i64 C.T, .slice C.AT C.tiles.length C.cT, .slice C.AO C.on.length C.cO, .slice C.AI C.ins.length C.cI, .slice C.AU C.outs.length C.cU] 28)
  have B0 := Box7.new w C 28
  go_enter Try.func16, Try.ntmps16
  go_wp2_with fail
  refine (HB.out).mono ?_
  rintro e w1 ⟨rfl, hb1⟩
  have Q1 := below_then Q0 hb1
  have B1 := Box7.below B0 hb1
  clear hb1 HB
  obtain ⟨z1, k10, k11, k12, k13, k14, k15, k16⟩ := id B1
  go_wp2_with fail
  refine (edges_yes _ _ _ _ HH.out).mono ?_
  rintro e w2 ⟨v, rfl, hb2, hown⟩
  rw [HL.out] at hown
  obtain ⟨AA, c, hv⟩ := own_slice hown
  subst hv
  have O2 := Lib.hid hown
  have Q2 := below_then Q1 hb2
  have B2 := Box7.below B1 hb2
  clear hb2 hown B1 z1 k10 k11 k12 k13 k14 k15 k16
  obtain ⟨z2, k20, k21, k22, k23, k24, k25, k26⟩ := id B2
  go_wp2_with fail
  refine (nodes_yes _ _ _ _ HH.out).mono ?_
  rintro e w3 ⟨rfl, hb3⟩
  rw [HN.out]
  have O3 := Lib.hid (own_keep O2.out hb3)
  have Q3 := below_then Q2 hb3
  have B3 := Box7.below B2 hb3
  clear hb3 B2 z2 k20 k21 k22 k23 k24 k25 k26 O2
  obtain ⟨i0, hi0, hz0, hz1, hz2⟩ := info_parts int_info
  have HI0 := Lib.hid hi0
  have HZ0 := Lib.hid hz0
  have HZ1 := Lib.hid hz1
  have HZ2 := Lib.hid hz2
  clear hi0 hz0 hz1 hz2
  go_wp2_with ((with_reducible refine wpList_make_full _ rfl (.tmp 25) (.tmp 25) 64 rfl w3.heap.size 3 i0 (.int .i64 0) 1 Try.underlying64 HI0.out HZ0.out HZ1.out .i64 .i64 (N : Int) (N : Int) N rfl rfl rfl rfl ?c1 ?c2 (Nat.le_refl _) ?_))
  case c1 => rw [HZ2.out]; omega
  case c2 => unfold maxLen; omega
  intro w4 hm4 hg4
  have hb4 : Below w3.heap.size w3 w4 := (Below.refl _ _).grown hg4 (Nat.le_refl _) (fun _ h => by cases h)
  rw [show (madeCells #[Value.int .i64 0] N).toList = nats (List.replicate N 0) by rw [toList_madeCells_one]; simp [nats]] at hm4
  have S4 : Sets w4 w3.heap.size N (firstL N 0) := by
    rw [firstL_zero]
    exact ⟨hm4, fun i hi => by simp only [List.getD_eq_getElem?_getD, List.getElem?_replicate]; split <;> simp⟩
  have J4 : Hid (JW w w4 C AA L c w1.heap.size w3.heap.size N (firstL N 0)) := Lib.hid
    ⟨below_then Q3 hb4, B3.below hb4, own_keep O3.out hb4, S4, B3.lt, fun e => by have := (O3.out.lt _ e).2; omega⟩
  clear hm4 hg4 hb4 S4 Q3 B3 O3 Q0 B0 Q1 Q2
  go_wp2_with fail
  go_loopw [29] (fun i wx => ∃ k : Nat, k ≤ N ∧ i = .int .i64 (k : Int) ∧ JW w wx C AA L c w1.heap.size w3.heap.size N (firstL N k)) (fun i _ => N - (intOf i).toNat)
  case atStart => exact ⟨0, by omega, rfl, J4.out⟩
  case round =>
    clear J4
    obtain ⟨k, hk, rfl, hj⟩ := hrel
    have HJ := Lib.hid hj
    clear hj
    by_cases hlt : k < N
    · have c0 := HJ.out.sets.cell hlt
      have f0 := HJ.out.sets.free k
      have hst := HJ.out.sets.store hlt (Nat.le_refl k)
      rw [firstL_set N k hlt] at hst
      have J5 := Lib.hid (HJ.out.turned hst.1 hst.2)
      clear hst
      generalize (firstL N k).getD k 0 = u at c0
      go_wp2_with fail
      go_roundw
      case rel => exact ⟨k + 1, by omega, by go_num, J5.out⟩
      case measure => simp [intOf]; omega
    · obtain rfl : k = N := by omega
      have hpe : partEnds k (joinAll L C.on 0) (firstL k k) := fun i hi => by
        have : (firstL k k).getD i 0 = i := by rw [firstL_getD k k hi, if_pos hi]
        exact root_of_end this
      have HP := Lib.hid hpe
      clear hpe
      go_wp2_with fail
      go_loopw [39] (fun i wx => ∃ (q : Nat) (S : List Nat), q ≤ L.length ∧ i = .int .i64 (q : Int) ∧ JW w wx C AA L c w1.heap.size w3.heap.size k S ∧ partEnds k (joinAll L C.on q) S) (fun i _ => L.length - (intOf i).toNat)
      case atStart => exact ⟨0, _, by omega, rfl, HJ.out, HP.out⟩
      case round =>
        clear HJ HP
        obtain ⟨q, S, hq, rfl, hj, hp⟩ := hrel
        have HJ := Lib.hid hj
        have HP := Lib.hid hp
        clear hj hp
        by_cases hql : q < L.length
        · obtain ⟨g, rfl, hcl⟩ := own_pair HJ.out.edges (by omega)
          obtain ⟨z, k0, k1, k2, k3, k4, k5, k6⟩ := HJ.out.box
          obtain ⟨c0, c1⟩ := hcl q hql
          clear hcl
          obtain ⟨ao, hao, hab, hoc⟩ := (HI.out.on).bool (k := q) (by rw [HON.out]; exact hql)
          rw [hao] at k4
          have hql2 : q < C.on.length := by rw [HON.out]; exact hql
          have hmem : L[q]! ∈ edgesL C.W C.H C.T := by rw [HL.out, getElem!_pos L q hql]; exact List.getElem_mem hql
          obtain ⟨r1, r2⟩ := edges_nodes HH.out hmem
          have e1 : 0 ≤ (L[q]!).1 := r1.2.1
          have e2 : (L[q]!).1 < (k : Int) := by have := r1.2.2; rw [HN.out] at this; exact this
          have e3 : 0 ≤ (L[q]!).2 := r2.2.1
          have e4 : (L[q]!).2 < (k : Int) := by have := r2.2.2; rw [HN.out] at this; exact this
          have hja : joinAll L C.on (q + 1) = if C.on.getD q false then joinR (joinAll L C.on q) (L[q]!).1.toNat (L[q]!).2.toNat else joinAll L C.on q := rfl
          have HJA := Lib.hid hja
          have HAO := Lib.hid hao
          clear hja hmem r1 r2 hao
          generalize L[q]! = ab at c0 c1 e1 e2 e3 e4 HJA
          obtain ⟨a, b⟩ := ab
          simp only at c0 c1 e1 e2 e3 e4
          obtain ⟨m, rfl⟩ : ∃ m : Nat, a = (m : Int) := ⟨a.toNat, by omega⟩
          obtain ⟨n, rfl⟩ : ∃ n : Nat, b = (n : Int) := ⟨b.toNat, by omega⟩
          have hm : m < k := by omega
          have hn : n < k := by omega
          clear e1 e2 e3 e4
          have J1 := Lib.hid (HJ.out.keep (below_new wr (.cells #[.int .i64 (m : Int), .int .i64 (n : Int)] 39)))
          have hoc2 := (J1.out.below.cell (p := ao.add q) (by rw [add_block]; exact hab)).trans hoc
          clear hoc
          have hgl : w3.heap.size < wr.heap.size := HJ.out.sets.glt
          cases ho : C.on.getD q false with
          | false =>
            rw [ho] at hoc2
            have HO := Lib.hid ho
            clear ho
            go_wp2_with fail
            go_roundw
            case rel => exact ⟨q + 1, S, by omega, by go_num, J1.out, by have := HJA.out; rw [HO.out] at this; rw [this]; exact HP.out⟩
            case measure => simp [intOf]; omega
          | true =>
            rw [ho] at hoc2
            have HO := Lib.hid ho
            clear ho
            go_wp2_with fail
            refine (sjoin_any _ _ _ S _ _ J1.out.sets hm hn (by omega)).mono ?_
            rintro e w5 ⟨S', rfl, hs', hr', hg'⟩
            have J5 := Lib.hid (J1.out.turned hs' hg')
            have hpe : partEnds k (joinAll L C.on (q + 1)) S' := fun i hi => by
              have hx := HJA.out
              rw [HO.out] at hx
              rw [hr' i hi, hx, HP.out i hi, HP.out m hm, HP.out n hn]
              simp only [if_true, joinR, Int.toNat_natCast]
            have HP5 := Lib.hid hpe
            clear hs' hr' hg' hpe
            go_wp2_with fail
            go_roundw
            case rel => exact ⟨q + 1, S', by omega, by go_num, J5.out, HP5.out⟩
            case measure => simp [intOf]; omega
        · obtain rfl : q = L.length := by omega
          obtain ⟨f, hf⟩ : ∃ f, joinAll L C.on L.length = f := ⟨_, rfl⟩
          rw [hf] at HP
          have HF := Lib.hid hf
          clear hf
          go_wp2_with fail
          go_loopw [58] (fun i wx => ∃ (q : Nat) (S : List Nat), q ≤ k ∧ i = .int .i64 (q : Int) ∧ JW w wx C AA L c w1.heap.size w3.heap.size k S ∧ partEnds k f S ∧ ∀ j, j < q → S.getD j 0 = f j) (fun i _ => k - (intOf i).toNat)
          case atStart => exact ⟨0, S, by omega, rfl, HJ.out, HP.out, fun j h => by omega⟩
          case round =>
            clear HJ HP
            obtain ⟨q, S, hq, rfl, hj, hp, hd⟩ := hrel
            have HJ := Lib.hid hj
            have HP := Lib.hid hp
            have HD := Lib.hid hd
            clear hj hp hd
            by_cases hql : q < k
            · have hfq : f q ≤ q := by rw [← HP.out q hql]; exact root_le _ _
              go_wp2_with fail
              refine (least_any _ _ _ S q HJ.out.sets hql (by omega)).mono ?_
              rintro e w5 ⟨S', rfl, hs', ha', hk', hg'⟩
              rw [HP.out q hql]
              have J5 := Lib.hid (HJ.out.turned hs' hg')
              have hsl : S.length = k := HJ.out.sets.len
              have hp5 : partEnds k f S' := fun i hi => (ha' i (by omega)).trans (HP.out i hi)
              have hd5 : ∀ j, j < q → S'.getD j 0 = f j := fun j hj => by
                have h1 := HP.out j (by omega)
                rw [hk' j (by omega) (by rw [h1]; exact HD.out j hj), h1]
              have HP5 := Lib.hid hp5
              have HD5 := Lib.hid hd5
              clear hs' ha' hk' hg' hp5 hd5 hsl
              have c0 := J5.out.sets.cell hql
              have f0 := J5.out.sets.free q
              have hst := J5.out.sets.store hql hfq
              have J6 := Lib.hid (J5.out.turned hst.1 hst.2)
              have hp6 : partEnds k f (S'.set q (f q)) := fun i hi => by
                have hl : S'.length = k := J5.out.sets.len
                by_cases e : f q = q
                · have hr := HP5.out q hql
                  have hq2 := root_end J5.out.sets.down q (by rw [hl]; exact hql)
                  rw [hr, e] at hq2
                  have hset : S'.set q (f q) = S' := by
                    apply List.ext_getElem?
                    intro j
                    rw [List.getElem?_set]
                    by_cases hj : q = j
                    · subst hj
                      rw [if_pos rfl, if_pos (by rw [hl]; exact hql), e]
                      rw [List.getD_eq_getElem?_getD, List.getElem?_eq_getElem (by rw [hl]; exact hql)] at hq2
                      rw [List.getElem?_eq_getElem (by rw [hl]; exact hql)]
                      simpa using hq2.symm
                    · rw [if_neg hj]
                  rw [hset]
                  exact HP5.out i hi
                · have hr := HP5.out q hql
                  have he : root S' (f q) = root S' q := by
                    have h1 := root_end J5.out.sets.down q (by rw [hl]; exact hql)
                    rw [hr] at h1 ⊢
                    exact root_of_end h1
                  rw [root_set J5.out.sets.down (by rw [hl]; exact hql) (by omega) he i (by rw [hl]; exact hi)]
                  exact HP5.out i hi
              have hd6 : ∀ j, j < q + 1 → (S'.set q (f q)).getD j 0 = f j := fun j hj => by
                rw [getD_setN S' q j (by rw [J5.out.sets.len]; exact hql)]
                by_cases e : q = j
                · subst e; rw [if_pos rfl]
                · rw [if_neg e]; exact HD5.out j (by omega)
              have HP6 := Lib.hid hp6
              have HD6 := Lib.hid hd6
              clear hst hp6 hd6
              generalize S'.getD q 0 = u at c0
              go_wp2_with fail
              go_roundw
              case rel => exact ⟨q + 1, _, by omega, by go_num, J6.out, HP6.out, HD6.out⟩
              case measure => simp [intOf]; omega
            · obtain rfl : q = k := by omega
              have hS : S = joinedL C := by
                unfold joinedL joinedR
                rw [HL.out, HF.out, HN.out, Int.toNat_natCast]
                apply List.ext_getElem
                · rw [HJ.out.sets.len]; simp
                · intro j h1 h2
                  have h3 : j < q := by rw [HJ.out.sets.len] at h1; exact h1
                  have := HD.out j h3
                  rw [List.getD_eq_getElem?_getD, List.getElem?_eq_getElem h1] at this
                  simpa using this
              have HS := Lib.hid hS
              clear hS
              have hend : JoinedOut C w (.returned (.tuple #[.slice (some ⟨w3.heap.size, 0, none⟩) q q, .int .i64 0])) wr :=
                ⟨w3.heap.size, q, rfl, HN.out, Nat.le_of_lt HJ.out.hg, HJ.out.below, by rw [← HS.out]; exact HJ.out.sets.row⟩
              rw [HR.out] at hend
              have HEND := Lib.hid hend
              clear hend
              go_wp2_with fail
              exact HEND.out
end Go.Proofs.Ytakccepilbmmlaa
