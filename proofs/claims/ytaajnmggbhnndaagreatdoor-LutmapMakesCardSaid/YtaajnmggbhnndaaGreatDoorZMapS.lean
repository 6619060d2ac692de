/- The net that gates are made, plainly: it may be; how many tables it has; each is used. -/
import Derived.Test.YtaajnmggbhnndaaGreatDoorZMapG
import Derived.Test.YtaajnmggbhnndaaGreatDoorZR25F
namespace Go.Proofs.YtaajnmggbhnndaaGreatDoor
open Go.RowKit
set_option linter.unusedVariables false
set_option linter.unusedSimpArgs false
theorem fewG25_fit {G : AG} (h : fewG25 G) (hI : G.I ≤ 65536) : G.fit := by
  obtain ⟨h1, h2, h3, h4⟩ := h
  exact ⟨by omega, by omega, by omega, by omega⟩
theorem NT.IsMap.len {N : NT} {G : AG} {k : Int} (h : N.IsMap G k) : N.hs.length = G.fl.length ∧ N.ou.length = G.ou.length ∧ N.ls.length = (G.mp k).lits.length := by
  refine ⟨by rw [h.hs, List.length_map], by rw [h.ou, List.length_map], ?_⟩
  rw [← N.luts_len, h.ls, MP.luts_len]
theorem countP_le' {α : Type} (p : α → Bool) (l : List α) : l.countP p ≤ l.length := List.countP_le_length
theorem NT.IsMap.few {N : NT} {G : AG} {k : Int} (h : N.IsMap G k) (hm : G.ok ∧ 2 ≤ k ∧ k ≤ 6) (hf : fewG25 G) : N.ls.length ≤ 240 := by
  obtain ⟨-, -, h3⟩ := h.len
  have hc := (AG.mp_ok hm).count
  have h1 : (G.mp k).N - (G.mp k).F = G.an.length := by show G.cn - G.fst = _; unfold AG.cn; omega
  have h2 := countP_le' (fun a => decide (a % 2 = 1)) (G.mp k).ts
  have h4 : (G.mp k).ts.length = G.ou.length + G.fl.length := by
    show (G.ou.map Int.toNat ++ G.fl.map fun f => f.1.toNat).length = _
    rw [List.length_append, List.length_map, List.length_map]
  obtain ⟨-, f2, f3, f4⟩ := hf
  omega
theorem NT.IsMap.at_lt {N : NT} {G : AG} {k : Int} (h : N.IsMap G k) (hm : G.ok ∧ 2 ≤ k ∧ k ≤ 6) {a : Nat} (ha : (G.mp k).good a) : (G.mp k).at_ a < G.fst + N.ls.length := by
  have := MP.at_lt (AG.mp_ok hm) ha (n := 2 * G.cn) ha.1 (Nat.le_refl _)
  rw [h.len.2.2]
  exact this
theorem NT.IsMap.fst {N : NT} {G : AG} {k : Int} (h : N.IsMap G k) (hm : G.ok) : N.fst = (G.fst : Int) := by
  unfold NT.fst AG.fst
  rw [h.i, h.len.1]
  have := hm.1
  omega
theorem NT.IsMap.lut_at {N : NT} {G : AG} {k : Int} (h : N.IsMap G k) {i : Nat} (hi : i < N.ls.length) : ∃ hl : i < (G.mp k).lits.length, (N.ls[i].1.2.2, N.ls[i].2) = (G.mp k).lut (G.mp k).lits[i] := by
  have hl : i < (G.mp k).lits.length := by rw [← h.len.2.2]; exact hi
  refine ⟨hl, ?_⟩
  rw [← N.luts_at hi]
  have e : ∀ (L : List PC) (hL : N.luts = L) (hi2 : i < L.length), N.luts[i]'(by rw [N.luts_len]; exact hi) = L[i] := fun L hL hi2 => by subst hL; rfl
  rw [e _ h.ls (by rw [MP.luts_len]; exact hl)]
  unfold MP.luts
  rw [List.getElem_map]
/-- the net may be -/
theorem NT.IsMap.may {N : NT} {G : AG} {k : Int} (h : N.IsMap G k) (hm : G.ok ∧ 2 ≤ k ∧ k ≤ 6) (hf : G.fit) : N.may k := by
  have hfst := h.fst hm.1
  have htot : N.tot = ((G.fst + N.ls.length : Nat) : Int) := by unfold NT.tot; rw [hfst]; omega
  refine ⟨hm.2, ⟨by rw [h.i]; exact hm.1.1, by rw [h.i]; have := hf.i; omega⟩, fun i hi => ?_, fun x hx => ?_, fun x hx => ?_⟩
  · obtain ⟨hl, e⟩ := h.lut_at hi
    rw [e, hfst]
    obtain ⟨h1, h2, h3⟩ := (AG.mp_ok hm).lits_at hl
    have hin := (AG.mp_ok hm).lut_in h2
    have hsm := AG.lut_small hm (a := (G.mp k).lits[i]) h1
    rw [h3] at hin
    simp only [lutB, Bool.and_eq_true, decide_eq_true_eq, List.all_eq_true, nodeB]
    refine ⟨⟨hsm.2.1, hsm.2.2.1⟩, fun y hy => ?_⟩
    have := hin y hy
    have hF : (G.mp k).F = G.fst := rfl
    omega
  · rw [h.hs] at hx
    obtain ⟨f, hf', rfl⟩ := List.mem_map.1 hx
    have := h.at_lt hm (AG.mp_next (k := k) hm hf')
    simp only [nodeB, Bool.and_eq_true, decide_eq_true_eq]
    omega
  · rw [h.ou] at hx
    obtain ⟨a, ha, rfl⟩ := List.mem_map.1 hx
    have := h.at_lt hm (AG.mp_out (k := k) hm ha)
    simp only [nodeB, Bool.and_eq_true, decide_eq_true_eq]
    omega
theorem NT.IsMap.fit {N : NT} {G : AG} {k : Int} (h : N.IsMap G k) (hm : G.ok ∧ 2 ≤ k ∧ k ≤ 6) (hfw : fewG25 G) (hf : G.fit) : N.fit := by
  obtain ⟨h1, h2, h3⟩ := h.len
  have h4 := h.few hm hfw
  refine ⟨by rw [h1]; exact hf.f, by omega, by rw [h2]; exact hf.o, fun c hc => ?_, .inl (by rw [h.i]; exact hf.i)⟩
  obtain ⟨i, hi, rfl⟩ := List.mem_iff_getElem.1 hc
  obtain ⟨hl, e⟩ := h.lut_at hi
  have hsm := AG.lut_small hm (a := (G.mp k).lits[i]) ((AG.mp_ok hm).lits_at hl).1
  rw [← e] at hsm
  have := hsm.1
  simp only at this
  omega
theorem NT.IsMap.wf {N : NT} {G : AG} {k : Int} (h : N.IsMap G k) (hm : G.ok ∧ 2 ≤ k ∧ k ≤ 6) (hfw : fewG25 G) (hf : G.fit) : N.wf := by
  have hmay := h.may hm hf
  have hN := h.fit hm hfw hf
  have htot : N.tot ≤ 100000 := by
    unfold NT.tot NT.fst
    have := hmay.small hN
    have := hN.hs
    have := hN.ls
    omega
  have hok := hmay.ok
  refine ⟨⟨by have := hmay.i; omega, by have := hmay.i; omega⟩, fun x hx => ?_, fun c hc => ?_, fun x hx => ?_⟩
  · have := hok.2.1 x hx
    simp only [nodeB, Bool.and_eq_true, decide_eq_true_eq] at this
    constructor <;> omega
  · obtain ⟨i, hi, rfl⟩ := List.mem_iff_getElem.1 hc
    obtain ⟨hl, e⟩ := h.lut_at hi
    have hsm := AG.lut_small hm (a := (G.mp k).lits[i]) ((AG.mp_ok hm).lits_at hl).1
    rw [← e] at hsm
    refine ⟨fun x hx => ?_, hsm.2.2.2⟩
    have h6 := lutB_len (hok.1 i hi)
    have := h6.2.2 x hx
    have hil : (i : Int) < (N.ls.length : Int) := by omega
    unfold NT.tot at htot
    constructor <;> omega
  · have := hok.2.2 x hx
    simp only [nodeB, Bool.and_eq_true, decide_eq_true_eq] at this
    constructor <;> omega
end Go.Proofs.YtaajnmggbhnndaaGreatDoor
