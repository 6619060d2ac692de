/- With no switch on each wire drives its own node alone: plainly. -/
import Derived.Test.YtoloaecbfglaeaaRd
import Derived.Test.YtoloaecbfglaeaaLive32
import Derived.Test.YtoloaecbfglaeaaShortP
import Derived.Test.YtoloaecbfglaeaaOpen
namespace Go.Proofs.Ytoloaecbfglaeaa
open Go.RowKit Topo
set_option linter.unusedVariables false
set_option linter.unusedSimpArgs false

/-- a configuration with no switch on -/
def offC (C : Cfg) (A : Option Addr) (c : Nat) : Cfg := { C with AO := A, cO := c, on := List.replicate C.on.length false }
theorem off_ok {C : Cfg} (h : C.ok) (A : Option Addr) (c : Nat) : (offC C A c).ok := ⟨h.1, h.2.1, h.2.2.1, by simp [offC]; exact h.2.2.2.1, h.2.2.2.2⟩
theorem off_few {C : Cfg} (h : C.few) (A : Option Addr) (c : Nat) : (offC C A c).few := by
  unfold Cfg.few at h ⊢
  simp [offC]
  exact h
theorem off_joined (C : Cfg) (A : Option Addr) (c : Nat) (i : Nat) : joinedR (offC C A c) i = i := by
  unfold joinedR
  rw [joinAll_none _ _ (fun j => by
    simp only [offC, List.getD_eq_getElem?_getD, List.getElem?_replicate]
    split <;> rfl)]
theorem off_jl (C : Cfg) (A : Option Addr) (c : Nat) : joinedL (offC C A c) = List.range (nodesI C.W C.H C.T).toNat := by
  unfold joinedL
  rw [show joinedR (offC C A c) = id from funext fun i => off_joined C A c i]
  simp [offC]
/-- what a node is, of pads, outputs, inputs -/
theorem node_back {W H T : Int} (h : okA W H T) {k : Nat} {x y t : Int} (hk : k < 5) (hg : inG W H T k x y t) : gk W H T (nodeN W H T k x y t) = k ∧ wx W H T (nodeN W H T k x y t) = x ∧ wy W H T (nodeN W H T k x y t) = y := by
  have e : nodeN W H T k x y t = nodeAt W H T k x y t := by unfold nodeN; rw [if_pos ⟨h, hg⟩]
  obtain ⟨-, a2, a3, a4, -⟩ := nodeAt_what h hk hg
  rw [e]
  exact ⟨a2, a3, a4⟩
section
variable {C : Cfg}
theorem pad_g (h : C.ok) {p : Int} (hp : p ∈ C.ins ++ C.outs) : inG C.W C.H C.T 2 p 0 0 := by
  have h1 := h.2.1.1 p hp
  simp only [inG, gw, gh, gd]; omega
theorem out_g (h : C.ok) {t : Nat} (ht : t < C.tiles.length) : inG C.W C.H C.T 0 ((t : Int) % C.W) ((t : Int) / C.W) 0 := by
  obtain ⟨h1, h2⟩ := tile_there h ht
  simp only [inG, gw, gh, gd]; omega
theorem in_g (h : C.ok) {t k : Nat} (ht : t < C.tiles.length) (hk : k < 4) : inG C.W C.H C.T 1 ((t : Int) % C.W) ((t : Int) / C.W) (k : Int) := by
  obtain ⟨h1, h2⟩ := tile_there h ht
  simp only [inG, gw, gh, gd]; omega
theorem pad_inj (h : C.ok) {p q : Int} (hp : p ∈ C.ins ++ C.outs) (hq : q ∈ C.ins ++ C.outs) (e : padN C p = padN C q) : p = q := by
  have a := (node_back h.1 (by omega) (pad_g h hp)).2.1
  have b := (node_back h.1 (by omega) (pad_g h hq)).2.1
  unfold padN at e
  rw [e] at a
  rw [← a, b]
theorem out_inj (h : C.ok) {t s : Nat} (ht : t < C.tiles.length) (hs : s < C.tiles.length) (e : outN C t = outN C s) : t = s := by
  have a := (node_back h.1 (by omega) (out_g h ht)).2
  have b := (node_back h.1 (by omega) (out_g h hs)).2
  unfold outN at e
  rw [e] at a
  have e1 := a.1.symm.trans b.1
  have e2 := a.2.symm.trans b.2
  have f1 := Int.mul_ediv_add_emod (t : Int) C.W
  have f2 := Int.mul_ediv_add_emod (s : Int) C.W
  rw [e1, e2] at f1
  omega
theorem pad_out (h : C.ok) {p : Int} {t : Nat} (hp : p ∈ C.ins ++ C.outs) (ht : t < C.tiles.length) : padN C p ≠ outN C t := fun e => by
  have a := (node_back h.1 (by omega) (pad_g h hp)).1
  have b := (node_back h.1 (by omega) (out_g h ht)).1
  unfold padN outN at e
  rw [e, b] at a
  cases a
theorem ends_nodup (h : C.ok) : (endsL C).Nodup := by
  unfold endsL
  rw [List.nodup_append]
  have hn := List.nodup_append.1 h.2.1.2
  refine ⟨?_, ?_, ?_⟩
  · exact (List.pairwise_map.2 (hn.1.imp_of_mem fun ha hb hne e => hne (pad_inj h (List.mem_append.2 (.inl ha)) (List.mem_append.2 (.inl hb)) e)))
  · exact (List.pairwise_map.2 ((List.nodup_range (n := C.tiles.length)).imp_of_mem fun ha hb hne e => hne (out_inj h (List.mem_range.1 ha) (List.mem_range.1 hb) e)))
  · intro x hx y hy e
    obtain ⟨p, hp, rfl⟩ := List.mem_map.1 hx
    obtain ⟨t, ht, rfl⟩ := List.mem_map.1 hy
    exact pad_out h (List.mem_append.2 (.inl hp)) (List.mem_range.1 ht) e
theorem off_labs (h : C.ok) (A : Option Addr) (c : Nat) : labs (offC C A c) = (endsL C).map Int.toNat := by
  unfold labs
  rw [off_jl]
  refine List.map_congr_left fun n hn => ?_
  have := ends_in (C := C) h hn
  rw [List.getD_eq_getElem?_getD, List.getElem?_range (by omega)]
  rfl
theorem off_nodup (h : C.ok) (A : Option Addr) (c : Nat) : (labs (offC C A c)).Nodup := by
  rw [off_labs h]
  refine List.pairwise_map.2 ((ends_nodup h).imp_of_mem fun ha hb hne e => hne ?_)
  have h1 := ends_in h ha
  have h2 := ends_in h hb
  omega
theorem off_dE (h : C.ok) (A : Option Addr) (c : Nat) : dE (offC C A c) = 0 := by
  unfold dE
  rw [if_pos (off_ok h A c), if_pos (off_nodup h A c)]
/-- a node that is no wire's has none -/
theorem off_dv (h : C.ok) (A : Option Addr) (c : Nat) {n : Int} (h0 : 0 ≤ n) (hn : n < nodesI C.W C.H C.T) (hne : n ∉ endsL C) : dv (offC C A c) n = -1 := by
  unfold dv dL
  rw [if_pos ⟨off_ok h A c, off_nodup h A c⟩]
  unfold driversL
  rw [off_jl, List.getD_eq_getElem?_getD, List.getElem?_map, List.getElem?_range (by omega)]
  show whoseOf _ n.toNat = -1
  refine whoseOf_none fun hm => hne ?_
  rw [off_labs h] at hm
  obtain ⟨m, hm1, hm2⟩ := List.mem_map.1 hm
  have := ends_in h hm1
  have e : m = n := by omega
  rw [← e]; exact hm1
theorem off_out (h : C.ok) (A : Option Addr) (c : Nat) {p : Int} (hp : p ∈ C.outs) : dv (offC C A c) (padN C p) = -1 := by
  obtain ⟨-, h1, h2⟩ := out_pad h hp
  refine off_dv h A c h1 h2 fun hm => ?_
  unfold endsL at hm
  have hn := (List.nodup_append.1 h.2.1.2).2.2
  rcases List.mem_append.1 hm with hm | hm
  · obtain ⟨q, hq, e⟩ := List.mem_map.1 hm
    have := pad_inj h (List.mem_append.2 (.inl hq)) (List.mem_append.2 (.inr hp)) e
    exact hn q hq p hp this
  · obtain ⟨t, ht, e⟩ := List.mem_map.1 hm
    exact pad_out h (List.mem_append.2 (.inr hp)) (List.mem_range.1 ht) e.symm
theorem off_in (h : C.ok) (A : Option Addr) (c : Nat) {t k : Nat} (ht : t < C.tiles.length) (hk : k < 4) : dv (offC C A c) (inN C t k) = -1 := by
  obtain ⟨-, h1, h2⟩ := in_node h ht hk
  refine off_dv h A c h1 h2 fun hm => ?_
  have a := (node_back h.1 (by omega) (in_g h ht hk)).1
  unfold endsL at hm
  rcases List.mem_append.1 hm with hm | hm
  · obtain ⟨q, hq, e⟩ := List.mem_map.1 hm
    have b := (node_back h.1 (by omega) (pad_g h (List.mem_append.2 (.inl hq)))).1
    unfold padN at e
    unfold inN at e
    rw [e, a] at b
    cases b
  · obtain ⟨s, hs, e⟩ := List.mem_map.1 hm
    have b := (node_back h.1 (by omega) (out_g h (List.mem_range.1 hs))).1
    unfold outN at e
    unfold inN at e
    rw [e, a] at b
    cases b
/-- how many are driven -/
theorem off_count (h : C.ok) (A : Option Addr) (c : Nat) : (dL (offC C A c)).countP (fun d => decide (0 ≤ d)) = C.ins.length + C.tiles.length := by
  unfold dL
  rw [if_pos ⟨off_ok h A c, off_nodup h A c⟩]
  unfold driversL
  rw [off_jl, List.countP_map]
  have hl : (labs (offC C A c)).length = C.ins.length + C.tiles.length := by rw [labs_length]; rfl
  rw [← hl]
  have hnd := off_nodup h A c
  have hlt : ∀ x ∈ labs (offC C A c), x < (nodesI C.W C.H C.T).toNat := fun x hx => by
    rw [off_labs h] at hx
    obtain ⟨m, hm, rfl⟩ := List.mem_map.1 hx
    have := ends_in h hm
    omega
  generalize labs (offC C A c) = l at hnd hlt
  have e : (List.range (nodesI C.W C.H C.T).toNat).countP ((fun d => decide (0 ≤ d)) ∘ whoseOf l) = ((List.range (nodesI C.W C.H C.T).toNat).filter fun n => decide (n ∈ l)).length := by
    rw [List.countP_eq_length_filter]
    congr 1
    refine List.filter_congr fun n hn => ?_
    simp only [Function.comp]
    rcases whoseOf_cases l n with ⟨h1, h2⟩ | ⟨w, h1, h2⟩
    · rw [h1]; simp [h2]
    · rw [h1]; simp [List.mem_of_getElem? h2]
  rw [e]
  apply Nat.le_antisymm
  · exact sub_len ((List.nodup_range).filter _) fun x hx => by simpa using (List.mem_filter.1 hx).2
  · exact sub_len hnd fun x hx => List.mem_filter.2 ⟨List.mem_range.2 (hlt x hx), by simpa using hx⟩
theorem off_outs (h : C.ok) (A : Option Addr) (c : Nat) (hne : C.outs ≠ []) : (outsD (offC C A c)).any (fun o => decide (o < 0)) = true := by
  obtain ⟨p, l, e⟩ := List.exists_cons_of_ne_nil hne
  refine List.any_eq_true.2 ⟨dv (offC C A c) (padN C p), List.mem_map.2 ⟨p, by show p ∈ C.outs; rw [e]; simp, rfl⟩, ?_⟩
  rw [off_out h A c (by rw [e]; simp)]
  rfl
theorem off_ins (h : C.ok) (A : Option Addr) (c : Nat) {t : Nat} (ht : t < C.tiles.length) : insD (offC C A c) t = [-1, -1, -1, -1] := by
  have e : ∀ k, k < 4 → dv (offC C A c) (inN (offC C A c) t k) = -1 := fun k hk => off_in h A c ht hk
  unfold insD
  rw [e 0 (by omega), e 1 (by omega), e 2 (by omega), e 3 (by omega)]
theorem off_ip : ipL [-1, -1, -1, -1] 4 = [] ∧ kpL [-1, -1, -1, -1] 4 = [] := by decide
theorem all_free {P : PK} (hE : P.E = []) : All (depE P.E) P.S ((List.range P.bs.length).filter fun b => decide (P.S b)) := by
  refine ⟨⟨List.nodup_range.filter _, fun b hb => by simpa using (List.mem_filter.1 hb).2, fun pre b post _ k hk => ?_⟩, fun b hb => List.mem_filter.2 ⟨List.mem_range.2 (PK.S_lt hb), by simpa using hb⟩⟩
  rw [hE] at hk
  simp [depE] at hk
theorem off_chk (h : C.ok) (hf : few32 C) (A : Option Addr) (c : Nat) (hno : C.outs = []) {Q : PK} (hq : Q.plain = packD (offC C A c)) : ChkR Q 0 := by
  simp only [PK.plain, packD, Prod.mk.injEq] at hq
  obtain ⟨h1, h2, h3⟩ := hq
  have hn : Q.bs.length = C.tiles.length := by have := congrArg List.length h2; simpa [offC] using this
  have hb : ∀ b ∈ Q.bs, ∃ t, t < C.tiles.length ∧ blkD (offC C A c) t = b.plain := fun b hb => by
    have : b.plain ∈ Q.bs.map BL.plain := List.mem_map.2 ⟨b, hb, rfl⟩
    rw [h2] at this
    obtain ⟨t, ht, e⟩ := List.mem_map.1 this
    exact ⟨t, List.mem_range.1 ht, e⟩
  have hbl : ∀ b ∈ Q.bs, b.l = [] ∧ 0 ≤ b.t ∧ b.t < 2 ∧ (b.it = true → b.ff = true) := fun b hm => by
    obtain ⟨t, ht, e⟩ := hb b hm
    simp only [blkD, BL.plain, Prod.mk.injEq] at e
    rw [off_ins h A c ht] at e
    obtain ⟨e1, e2, e3, e4⟩ := e
    have hlt := blockT_lt [-1, -1, -1, -1] ((offC C A c).tiles[t]!).1.toNat
    rw [off_ip.2] at hlt
    rw [off_ip.1] at e1
    have hlt2 : blockT [-1, -1, -1, -1] ((offC C A c).tiles[t]!).1.toNat < 2 := hlt
    refine ⟨e1.symm, by omega, by omega, fun hi => ?_⟩
    have ho := h.2.2.2.2
    rw [List.any_eq_false] at ho
    have := ho C.tiles[t] (List.getElem_mem ht)
    have e5 : (offC C A c).tiles[t]! = C.tiles[t] := by show C.tiles[t]! = _; rw [getElem!_pos C.tiles t ht]
    rw [e5] at e3 e4
    rw [← e4] at hi
    rw [← e3]
    simp [oddB, hi] at this
    exact this.2
  have hin : ∀ k, inL Q.bs k = [] := fun k => by
    unfold inL
    cases e : Q.bs[k]? with
    | none => rfl
    | some b => exact (hbl b (List.mem_of_getElem? e)).1
  have hE : Q.E = [] := by
    have : ∀ k, edTo Q.I Q.bs k = [] := fun k => by
      induction k with
      | zero => rfl
      | succ k ih =>
        show edTo Q.I Q.bs k ++ _ = []
        rw [ih, hin]
        split <;> rfl
    exact this _
  refine .inl ⟨rfl, ⟨?_, ?_, ?_, fun b hm => ?_, ?_⟩, _, all_free hE⟩
  · rw [h1]; omega
  · rw [h1]; have : (offC C A c).ins.length = C.ins.length := rfl; have := hf.2.2.2.2.2.1; omega
  · rw [hn]; have := hf.2.2.2.1; omega
  · obtain ⟨a1, a2, a3, a4⟩ := hbl b hm
    refine ⟨by rw [a1]; simp, by rw [a1]; rfl, a4, a2, ?_⟩
    rw [a1]
    simpa using a3
  · have : outsD (offC C A c) = [] := by unfold outsD; show C.outs.map _ = []; rw [hno]; rfl
    rw [h3, this]; rfl
theorem off_read (h : C.ok) (hf : few32 C) (A : Option Addr) (c : Nat) {P : PK} {x : Int} (hr : ReadR (offC C A c) P x) : (C.outs ≠ [] → x = 121) ∧ (C.outs = [] → x = 0) := by
  unfold ReadR at hr
  rw [off_dE h, if_neg (by simp)] at hr
  constructor
  · intro hne
    rw [if_pos (off_outs h A c hne)] at hr
    exact hr
  · intro hno
    rw [if_neg (by rw [show outsD (offC C A c) = [] by unfold outsD; show C.outs.map _ = []; rw [hno]; rfl]; simp)] at hr
    obtain ⟨Q, hq, hc, -⟩ := hr
    exact hc.one (off_chk h hf A c hno hq)
end
end Go.Proofs.Ytoloaecbfglaeaa
