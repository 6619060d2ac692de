/- filigreeref24.gate: the sets of a gate. -/
import Derived.Test.YtkhlllbceceikaaDoorRPut
namespace Go.Proofs.YtkhlllbceceikaaDoor.Cut
set_option linter.unusedVariables false
set_option linter.unusedSimpArgs false
def pairs (a b : List (List Int)) : List (List Int × List Int) := a.flatMap fun x => b.map fun y => (x, y)
def putM (d : List Int) (k : Int) (L : List (List Int)) (p : List Int × List Int) : List (List Int) := match merge p.1 p.2 k with
  | some x => put d L x
  | none => L
/-- the sets of a gate, all of them -/
def gateAll (d : List Int) (a b : List (List Int)) (k : Int) : List (List Int) := (pairs a b).foldl (putM d k) []
def gate (d : List Int) (a b : List (List Int)) (k : Int) : List (List Int) := (gateAll d a b k).take 8
theorem pairs_len (a b : List (List Int)) : (pairs a b).length = a.length * b.length := by
  induction a with
  | nil => simp [pairs]
  | cons x a ih =>
    have e : pairs (x :: a) b = (b.map fun y => (x, y)) ++ pairs a b := by simp [pairs]
    rw [e, List.length_append, ih, List.length_map, List.length_cons, Nat.add_mul]; omega
theorem pairs_at : ∀ (a b : List (List Int)) (i j : Nat) (hi : i < a.length) (hj : j < b.length), (pairs a b)[i * b.length + j]? = some (a[i], b[j])
  | [], b, i, j, hi, hj => by simp at hi
  | x :: a, b, 0, j, hi, hj => by
    have e : pairs (x :: a) b = (b.map fun y => (x, y)) ++ pairs a b := by simp [pairs]
    rw [e, Nat.zero_mul, Nat.zero_add, List.getElem?_append_left (by simpa using hj), List.getElem?_map, List.getElem?_eq_getElem hj]; rfl
  | x :: a, b, i + 1, j, hi, hj => by
    have e : pairs (x :: a) b = (b.map fun y => (x, y)) ++ pairs a b := by simp [pairs]
    have h1 : (i + 1) * b.length + j = b.length + (i * b.length + j) := by rw [Nat.add_mul]; omega
    rw [e, h1, List.getElem?_append_right (by simp)]
    have h2 : b.length + (i * b.length + j) - (b.map fun y => (x, y)).length = i * b.length + j := by simp
    rw [h2]
    have := pairs_at a b i j (by simpa using hi) hj
    simpa using this
/-- so far xs so many pairs -/
def gateTo (d : List Int) (a b : List (List Int)) (k : Int) (n : Nat) : List (List Int) := ((pairs a b).take n).foldl (putM d k) []
theorem gateTo_zero (d : List Int) (a b : List (List Int)) (k : Int) : gateTo d a b k 0 = [] := rfl
theorem gateTo_all (d : List Int) (a b : List (List Int)) (k : Int) : gateTo d a b k (a.length * b.length) = gateAll d a b k := by
  unfold gateTo gateAll
  rw [← pairs_len, List.take_length]
theorem gateTo_next {d : List Int} {a b : List (List Int)} {k : Int} {i j : Nat} (hi : i < a.length) (hj : j < b.length) : gateTo d a b k (i * b.length + j + 1) = putM d k (gateTo d a b k (i * b.length + j)) (a[i], b[j]) := by
  unfold gateTo
  have h := pairs_at a b i j hi hj
  obtain ⟨hlt, he⟩ := List.getElem?_eq_some_iff.1 h
  rw [List.take_succ_eq_append_getElem hlt, List.foldl_append, he]; rfl
theorem put_len (d : List Int) (L : List (List Int)) (x : List Int) : (put d L x).length ≤ L.length + 1 := by
  unfold put
  split
  · omega
  · simp; omega
theorem put_mem {d : List Int} {L : List (List Int)} {x y : List Int} (h : y ∈ put d L x) : y ∈ L ∨ y = x := by
  unfold put at h
  split at h
  · exact .inl h
  · rcases List.mem_append.1 h with h | h
    · rcases List.mem_append.1 h with h | h
      · exact .inl (List.mem_of_mem_take h)
      · exact .inr (by simpa using h)
    · exact .inl (List.mem_of_mem_drop h)
theorem merge_mem {a b x : List Int} {k : Int} (h : merge a b k = some x) : x = mrg a b ∧ Rises x ∧ (x.length : Int) ≤ k ∧ k ≤ 6 ∧ ∀ z, z ∈ x → z ∈ a ∨ z ∈ b := by
  unfold merge at h
  split at h
  · next hc =>
    cases h
    exact ⟨rfl, mrg_rises a b hc.1 hc.2.1, hc.2.2.2.2, hc.2.2.2.1, fun z hz => (mem_mrg a b z).1 hz⟩
  · cases h
end Go.Proofs.YtkhlllbceceikaaDoor.Cut
namespace Go.Proofs.YtkhlllbceceikaaDoor
open Go.RowKit
set_option linter.unusedVariables false
set_option linter.unusedSimpArgs false
/-- cuts, and where their leaves lie -/
abbrev CT : Type := SL × Nat
def cutC (cs : List CT) : List Value := cs.flatMap fun c => [slv c.1, .int .u64 (c.2 : Int)]
theorem cutC_length (cs : List CT) : (cutC cs).length = cs.length * 2 := by
  induction cs with
  | nil => rfl
  | cons c cs ih => simp only [cutC, List.flatMap_cons, List.length_append] at *; simp at *; omega
theorem cutC_append (a b : List CT) : cutC (a ++ b) = cutC a ++ cutC b := by simp [cutC]
theorem cutC_get : ∀ (cs : List CT) (k : Nat) (hk : k < cs.length), (cutC cs)[k * 2]? = some (slv cs[k].1) ∧ (cutC cs)[k * 2 + 1]? = some (.int .u64 (cs[k].2 : Int))
  | x :: l, 0, _ => ⟨rfl, rfl⟩
  | x :: l, k + 1, hk => by
    have ih := cutC_get l k (by simpa using hk)
    have e : (k + 1) * 2 = k * 2 + 2 := by omega
    rw [e]
    simpa [cutC] using ih
theorem cutC_one (cs : List CT) : ∀ u ∈ cutC cs, u.oneCell' = true := by
  intro u hu
  obtain ⟨c, -, hc⟩ := List.mem_flatMap.1 hu
  simp at hc
  rcases hc with rfl | rfl <;> rfl
structure CutsIn (w : World) (A : Option Addr) (c : Nat) (cs : List CT) : Prop where
  row : Rd w 2 A cs.length c (cutC cs)
  all : ∀ x ∈ cs, SLIn w x.1
theorem CutsIn.later {w w' : World} {A : Option Addr} {c : Nat} {cs : List CT} (h : CutsIn w A c cs) (hb : Below w.heap.size w w') : CutsIn w' A c cs := ⟨h.row.later hb, fun l hl => (h.all l hl).later hb⟩
/-- the leaves of each -/
def lvs (cs : List CT) : List (List Int) := cs.map fun c => c.1.2.2
theorem lvs_length (cs : List CT) : (lvs cs).length = cs.length := by simp [lvs]
theorem lvs_at {cs : List CT} {k : Nat} (h : k < cs.length) : (lvs cs)[k]'(by rw [lvs_length]; exact h) = cs[k].1.2.2 := by simp [lvs]
/-- the leaves are nodes -/
def LvIn (N : Nat) (cs : List CT) : Prop := ∀ c ∈ cs, NodesIn N c.1.2.2 ∧ c.1.2.2.length ≤ 6
theorem CutsIn.at_ {w : World} {A : Option Addr} {c : Nat} {cs : List CT} (h : CutsIn w A c cs) {k : Nat} (hk : k < cs.length) :
    ∃ a, A = some a ∧ a.block < w.heap.size ∧ w.cell? (a.add (k * 2)) = some (slv cs[k].1) ∧ w.cell? ⟨(a.add (k * 2)).block, (a.add (k * 2)).off + 1, none⟩ = some (.int .u64 (cs[k].2 : Int)) ∧ SLIn w cs[k].1 := by
  obtain ⟨h0, h1⟩ := cutC_get cs k hk
  obtain ⟨a, e, hb, g0, g1⟩ := h.row.two h0 h1
  exact ⟨a, e, hb, g0, g1, h.all _ (List.getElem_mem hk)⟩
/-- leaves in a row of the call's own -/
def OwnL (base : Nat) (w : World) (l : SL) : Prop := w.ownsRow base 3 1 (slv l) l.2.2.length (ints l.2.2)
theorem OwnL.later {base : Nat} {w w' : World} {l : SL} (h : OwnL base w l) (hb : Below w.heap.size w w') : OwnL base w' l := own_keep h hb
def GateOut (L : List (List Int)) (w : World) (r : Ending) (w' : World) : Prop :=
  ∃ A c ls, r = .returned (.slice A (ls : List SL).length c) ∧ Below w.heap.size w w' ∧ SLs w' A c ls ∧ con ls = L ∧ ∀ l ∈ ls, OwnL w.heap.size w' l
theorem SLs.pre {w : World} {A : Option Addr} {c : Nat} {ls : List SL} (h : SLs w A c ls) (k : Nat) (hk : k ≤ ls.length) : SLs w A c (ls.take k) := by
  refine ⟨?_, fun l hl => h.all l (List.mem_of_mem_take hl)⟩
  have := h.row.pre hk
  rw [Nat.mul_one] at this
  simpa [List.length_take, Nat.min_eq_left hk, List.map_take] using this
set_option maxRecDepth 100000 in
set_option maxHeartbeats 4000000 in
theorem rgate_any (D A B : Option Addr) (cd ca cb N : Nat) (d : List Int) (xs ys : List CT) (k : Int) (w : World) (hd : DepIn w D cd N d) (ha : CutsIn w A ca xs) (hb : CutsIn w B cb ys) (hla : LvIn N xs) (hlb : LvIn N ys) (hna : xs.length ≤ 50) (hnb : ys.length ≤ 50) :
    Calls Tryd.prog 60 #[.slice D N cd, .slice A xs.length ca, .slice B ys.length cb, .int .i64 k] w (GateOut (Cut.gate d (lvs xs) (lvs ys) k) w) := by
  have HMG := Lib.hid (fun (W : World) (hB : Below w.heap.size w W) (i j : Nat) (hi : i < xs.length) (hj : j < ys.length) => rmerge_any xs[i].1.1 ys[j].1.1 xs[i].1.2.1 ys[j].1.2.1 xs[i].1.2.2 ys[j].1.2.2 k W (Rd.later (ha.all _ (List.getElem_mem hi)) hB) (Rd.later (hb.all _ (List.getElem_mem hj)) hB) (by have := (hla _ (List.getElem_mem hi)).2; omega) (by have := (hlb _ (List.getElem_mem hj)).2; omega))
  have HPU := Lib.hid (fun (W : World) (hB : Below w.heap.size w W) (A' : Option Addr) (c' : Nat) (ls : List SL) (x : SL) (h1 : SLs W A' c' ls) (h2 : SLIn W x) (h3 : ∀ l ∈ ls, NodesIn N l.2.2 ∧ l.2.2.length ≤ 6) (h4 : NodesIn N x.2.2 ∧ x.2.2.length ≤ 6) (h5 : ls.length ≤ 10000) => put_any D A' cd c' N d ls x W (hd.later hB) h1 h2 h3 h4 h5)
  have HA := Lib.hid ha
  have HB := Lib.hid hb
  have HLA := Lib.hid hla
  have HLB := Lib.hid hlb
  obtain ⟨n, hn⟩ : ∃ n, xs.length = n := ⟨_, rfl⟩
  obtain ⟨m, hm⟩ : ∃ n, ys.length = n := ⟨_, rfl⟩
  have HN := Lib.hid hn
  have HM := Lib.hid hm
  rw [hn] at hna ⊢
  rw [hm] at hnb ⊢
  have hGN : ∀ (i j : Nat) (hi : i < xs.length) (hj : j < ys.length), Cut.gateTo d (lvs xs) (lvs ys) k (i * m + j + 1) = Cut.putM d k (Cut.gateTo d (lvs xs) (lvs ys) k (i * m + j)) (xs[i].1.2.2, ys[j].1.2.2) := fun i j hi hj => by
    have h := Cut.gateTo_next (d := d) (k := k) (a := lvs xs) (b := lvs ys) (i := i) (j := j) (by rw [lvs_length]; exact hi) (by rw [lvs_length]; exact hj)
    simp only [lvs_length, hm, lvs_at hi, lvs_at hj] at h
    exact h
  have HGN := Lib.hid hGN
  have hall : Cut.gateTo d (lvs xs) (lvs ys) k (n * m) = Cut.gateAll d (lvs xs) (lvs ys) k := by
    have h := Cut.gateTo_all d (lvs xs) (lvs ys) k
    rw [lvs_length, lvs_length, hn, hm] at h; exact h
  have HALL := Lib.hid hall
  clear hd ha hb hla hlb hn hm hGN hall
  go_enter Tryd.func60, Tryd.ntmps60
  go_wp2_with fail
  go_loopw [9, 10] (fun v9 v10 wx => ∃ (i : Nat) (AL : Option Addr) (cL : Nat) (ls : List SL), i ≤ n ∧ v10 = .int .i64 (i : Int) ∧ v9 = .slice AL ls.length cL ∧ con ls = Cut.gateTo d (lvs xs) (lvs ys) k (i * m) ∧ ls.length ≤ i * m ∧ SLs wx AL cL ls ∧ (∀ l ∈ ls, (NodesIn N l.2.2 ∧ l.2.2.length ≤ 6) ∧ OwnL w.heap.size wx l) ∧ Below w.heap.size w wx) (fun _ v10 _ => n - (intOf v10).toNat)
  case atStart => exact ⟨0, none, 0, [], by omega, rfl, rfl, by rw [Nat.zero_mul]; rfl, by simp, ⟨Rd.none0 _ _ _ _ (fun _ => rfl), fun l hl => by cases hl⟩, fun l hl => (by cases hl), Below.refl _ _⟩
  case round =>
    obtain ⟨i, AL, cL, ls, hi, rfl, rfl, hcon, hlen, hSL, hnod, hB⟩ := hrel
    have HCON := Lib.hid hcon
    have HS := Lib.hid hSL
    have HNO := Lib.hid hnod
    have B1 := Lib.hid hB
    clear hcon hSL hnod hB
    by_cases hin : i < n
    case neg =>
      obtain rfl : i = n := by omega
      have hres : con (ls.take 8) = Cut.gate d (lvs xs) (lvs ys) k := by
        unfold Cut.gate
        rw [← HALL.out, ← HCON.out]; simp [con, List.map_take]
      have HRES := Lib.hid hres
      have hcc := HS.out.row.cap
      have hln : (min (ls.length : Int) 8).toNat = (ls.take 8).length := by rw [List.length_take]; omega
      have HLN := Lib.hid hln
      clear hres hln
      go_wp2_with fail
      go_ret
      refine ⟨AL, cL, ls.take 8, ?_, B1.out, ?_, HRES.out, fun l hl => (HNO.out l (List.mem_of_mem_take hl)).2⟩
      · rw [← HLN.out]; rfl
      · rcases Nat.le_total ls.length 8 with h8 | h8
        · rw [List.take_of_length_le h8]; exact HS.out
        · exact HS.out.pre 8 h8
    have hin' : (i : Int) < (n : Int) := by omega
    go_wp2_with fail
    go_loopw [9, 11] (fun v9 v11 wx => ∃ (j : Nat) (AL : Option Addr) (cL : Nat) (ls : List SL), j ≤ m ∧ v11 = .int .i64 (j : Int) ∧ v9 = .slice AL ls.length cL ∧ con ls = Cut.gateTo d (lvs xs) (lvs ys) k (i * m + j) ∧ ls.length ≤ i * m + j ∧ SLs wx AL cL ls ∧ (∀ l ∈ ls, (NodesIn N l.2.2 ∧ l.2.2.length ≤ 6) ∧ OwnL w.heap.size wx l) ∧ Below w.heap.size w wx) (fun _ v11 _ => m - (intOf v11).toNat)
    case atStart => exact ⟨0, AL, cL, ls, by omega, rfl, rfl, HCON.out, hlen, HS.out, HNO.out, B1.out⟩
    case round =>
      clear HCON HS HNO B1 hlen
      obtain ⟨j, AM, cM, ms, hj, rfl, rfl, hcon, hlen, hSL, hnod, hB⟩ := hrel
      have HCON := Lib.hid hcon
      have HS := Lib.hid hSL
      have HNO := Lib.hid hnod
      have B1 := Lib.hid hB
      have him : i * m ≤ 2500 := Nat.le_trans (Nat.mul_le_mul (by omega : i ≤ 50) hnb) (by omega)
      clear hcon hSL hnod hB
      by_cases hjm : j < m
      case neg =>
        obtain rfl : j = m := by omega
        have HCO2 := Lib.hid (show con ms = Cut.gateTo d (lvs xs) (lvs ys) k ((i + 1) * j) by rw [Nat.add_mul, Nat.one_mul]; exact HCON.out)
        have hlen2 : ms.length ≤ (i + 1) * j := by rw [Nat.add_mul, Nat.one_mul]; exact hlen
        clear HCON
        go_wp2_with fail
        go_roundw
        case rel => exact ⟨i + 1, AM, cM, ms, by omega, by go_num, rfl, HCO2.out, hlen2, HS.out, HNO.out, B1.out⟩
        case measure => simp [intOf]; omega
      have hjm' : (j : Int) < (m : Int) := by omega
      have hix : i < xs.length := by rw [HN.out]; exact hin
      have hjy : j < ys.length := by rw [HM.out]; exact hjm
      obtain ⟨a, hA, hab, d0, -, -⟩ := HA.out.at_ hix
      obtain ⟨b, hBB, hbb, e0, -, -⟩ := HB.out.at_ hjy
      subst hA
      subst hBB
      have d1 := (B1.out.cell (p := a.add (i * 2)) (by rw [add_block]; exact hab)).trans d0
      have e1 := (B1.out.cell (p := b.add (j * 2)) (by rw [add_block]; exact hbb)).trans e0
      have HM1 := Lib.hid (fun (W : World) (hB : Below wr.heap.size wr W) => HMG.out W (below_then B1.out hB) i j hix hjy)
      have HG1 := Lib.hid (HGN.out i j hix hjy)
      have HL1 := Lib.hid (HLA.out _ (List.getElem_mem hix))
      have HL2 := Lib.hid (HLB.out _ (List.getElem_mem hjy))
      clear d0 e0
      generalize xs[i] = x at d1 HM1 HG1 HL1
      generalize ys[j] = y at e1 HM1 HG1 HL2
      obtain ⟨⟨x1, x2, x3⟩, xt⟩ := x
      obtain ⟨⟨y1, y2, y3⟩, yt⟩ := y
      simp only [slv] at d1 e1 HM1 HG1 HL1 HL2
      go_wp2_with fail
      have hba : (a.add (i * 2)).block < wr.heap.size := by rw [add_block]; exact Nat.lt_of_lt_of_le hab B1.out.size
      have hbb2 : (b.add (j * 2)).block < wr.heap.size := by rw [add_block]; exact Nat.lt_of_lt_of_le hbb B1.out.size
      go_region_held3 (fun w' => w'.cell? (a.add (i * 2)) = some (.slice x1 x3.length x2) ∧ w'.cell? (b.add (j * 2)) = some (.slice y1 y3.length y2)) (go_keep) ((go_at_call 16; (with_reducible refine (HM1.out _ (Below.refl _ _).drew).mono ?_); rintro e w9 ⟨A9, c9, rfl, hb9, ho9⟩; have hb9 := below_of_drew hb9; have f1 := (hb9.cell hba).trans d1; have f2 := (hb9.cell hbb2).trans e1))
      have hb99 : Below wr.heap.size wr w9 := hb9
      have B9 := Lib.hid (below_then B1.out hb99)
      have R9 := Lib.hid (own_down ho9 (base' := w.heap.size) B1.out.size)
      have N9 := Lib.hid (show ∀ l ∈ ms, (NodesIn N l.2.2 ∧ l.2.2.length ≤ 6) ∧ OwnL w.heap.size w9 l from fun l hl => ⟨(HNO.out l hl).1, (HNO.out l hl).2.later hb99⟩)
      have S9 := Lib.hid (HS.out.later hb99)
      clear ho9 f1 f2 hb99 hb9 d1 e1 hba hbb2 HM1 hab hbb
      have hme := fun z (h : Cut.merge x3 y3 k = some z) => Cut.merge_mem h
      have HME := Lib.hid hme
      clear hme
      obtain ⟨o, ho⟩ : ∃ o, Cut.merge x3 y3 k = o := ⟨_, rfl⟩
      rw [ho] at HME
      simp only [Cut.putM, ho] at HG1
      rw [ho] at R9
      rw [ho]
      cases o with
      | none =>
        simp only [Option.getD_none, Option.isSome_none, List.length_nil]
        go_wp2_with fail
        go_roundw
        case rel => exact ⟨j + 1, AM, cM, ms, by omega, by go_num, rfl, HCON.out.trans HG1.out.symm, by omega, S9.out, N9.out, B9.out⟩
        case measure => simp [intOf]; omega
      | some z =>
        simp only [Option.getD_some, Option.isSome_some]
        obtain ⟨-, -, hz1, hz2, hz3⟩ := HME.out z rfl
        have hzn : NodesIn N z ∧ z.length ≤ 6 := ⟨fun t ht => by rcases hz3 t ht with h | h; exact HL1.out.1 t h; exact HL2.out.1 t h, by omega⟩
        have HZN := Lib.hid hzn
        have hpu := HPU.out w9 B9.out AM cM ms (A9, c9, z) S9.out (Rd.of_own R9.out) (fun l hl => (N9.out l hl).1) hzn (by omega)
        simp only at hpu
        unfold PutOut at hpu
        have HP := Lib.hid hpu
        clear hpu hz1 hz2 hz3 hzn
        go_wp2_with fail
        refine HP.out.mono ?_
        rintro e w7 ⟨A7, c7, ls7, rfl, hb7, hs7, hc7, hm7⟩
        have B7 := Lib.hid (below_then B9.out hb7)
        have S7 := Lib.hid hs7
        have C7 := Lib.hid ((hc7.trans (by rw [HCON.out])).trans HG1.out.symm)
        have hl7 : ls7.length ≤ i * m + (j + 1) := by
          have h1 := congrArg List.length (show con ls7 = Cut.put d (con ms) z from hc7)
          have h2 := Cut.put_len d (con ms) z
          rw [con_length] at h1 h2
          omega
        have N7 := Lib.hid (show ∀ l ∈ ls7, (NodesIn N l.2.2 ∧ l.2.2.length ≤ 6) ∧ OwnL w.heap.size w7 l from fun l hl => by
          rcases hm7 l hl with h2 | h2
          · exact ⟨(N9.out l h2).1, (N9.out l h2).2.later hb7⟩
          · subst h2
            exact ⟨HZN.out, OwnL.later (l := (A9, c9, z)) R9.out hb7⟩)
        clear hb7 hs7 hc7 hm7
        go_wp2_with fail
        go_roundw
        case rel => exact ⟨j + 1, A7, c7, ls7, by omega, by go_num, rfl, C7.out, hl7, S7.out, N7.out, B7.out⟩
        case measure => simp [intOf]; omega
end Go.Proofs.YtkhlllbceceikaaDoor
