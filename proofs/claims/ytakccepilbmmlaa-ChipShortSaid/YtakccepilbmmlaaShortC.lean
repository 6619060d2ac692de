/- One switch more, of a configuration. Plain, no program here. -/
import Derived.Test.YtakccepilbmmlaaShortP
namespace Go.Proofs.Ytakccepilbmmlaa
open Go.RowKit
set_option linter.unusedVariables false
set_option linter.unusedSimpArgs false

/-- the configuration with one switch turned on, its list in new memory -/
def turned (C : Cfg) (A : Option Addr) (c q : Nat) : Cfg := { C with AO := A, cO := c, on := C.on.set q true }
theorem turned_ok {C : Cfg} (h : C.ok) (A : Option Addr) (c q : Nat) : (turned C A c q).ok :=
  ⟨h.1, h.2.1, h.2.2.1, by simpa [turned] using h.2.2.2.1, h.2.2.2.2⟩
theorem turned_few {C : Cfg} (h : C.few) (A : Option Addr) (c q : Nat) : (turned C A c q).few := by
  unfold Cfg.few at *
  simpa [turned] using h
theorem turned_joined {C : Cfg} (A : Option Addr) (c : Nat) {q : Nat} (hq : q < (edgesL C.W C.H C.T).length) (hl : q < C.on.length) (i : Nat) :
    joinedR (turned C A c q) i = mg (joinedR C ((edgesL C.W C.H C.T)[q]!).1.toNat) (joinedR C ((edgesL C.W C.H C.T)[q]!).2.toNat) (joinedR C i) :=
  joinAll_more (edgesL C.W C.H C.T) C.on _ q hq hl i
theorem jl_get (C : Cfg) {i : Nat} (h : i < (nodesI C.W C.H C.T).toNat) : (joinedL C).getD i 0 = joinedR C i := by
  simp [joinedL, List.getD_eq_getElem?_getD, List.getElem?_range h]
theorem dl_get (C : Cfg) {i : Nat} (h : i < (nodesI C.W C.H C.T).toNat) : (driversL C).getD i 0 = whoseOf (labs C) (joinedR C i) := by
  simp [driversL, joinedL, List.getD_eq_getElem?_getD, List.getElem?_range h]
theorem turned_labs {C : Cfg} (h : C.ok) (A : Option Addr) (c : Nat) {q : Nat} (hq : q < (edgesL C.W C.H C.T).length) (hl : q < C.on.length) :
    labs (turned C A c q) = (labs C).map (mg (joinedR C ((edgesL C.W C.H C.T)[q]!).1.toNat) (joinedR C ((edgesL C.W C.H C.T)[q]!).2.toNat)) := by
  unfold labs
  rw [List.map_map]
  apply List.map_congr_left
  intro n hn
  have hb := ends_in h (n := n) hn
  have e1 : n.toNat < (nodesI C.W C.H C.T).toNat := by omega
  simp only [Function.comp]
  rw [jl_get C e1, jl_get (turned C A c q) e1, turned_joined A c hq hl]
/-- THE LAW: what Drivers tells then -/
theorem turned_tells {C : Cfg} (h : C.ok) (A : Option Addr) (c : Nat) {q x y : Nat} (hl : q < C.on.length) (hx : ((edgesL C.W C.H C.T)[q]!).1 = (x : Int)) (hy : ((edgesL C.W C.H C.T)[q]!).2 = (y : Int)) (hnd : (labs C).Nodup) {a b : Int} (ha : (driversL C).getD x 0 = a) (hb : (driversL C).getD y 0 = b) (hxN : (x : Int) < nodesI C.W C.H C.T) (hyN : (y : Int) < nodesI C.W C.H C.T) :
    (0 ≤ a → 0 ≤ b → a ≠ b → ¬ (labs (turned C A c q)).Nodup) ∧
    (¬ (0 ≤ a ∧ 0 ≤ b ∧ a ≠ b) → (labs (turned C A c q)).Nodup ∧ (driversL (turned C A c q)).getD x 0 = max a b ∧ (driversL (turned C A c q)).getD y 0 = max a b) := by
  have hq : q < (edgesL C.W C.H C.T).length := by rw [← h.2.2.2.1]; exact hl
  have hlab := turned_labs h A c hq hl
  have hjx := turned_joined (C := C) A c hq hl x
  have hjy := turned_joined (C := C) A c hq hl y
  rw [hx, hy, Int.toNat_natCast, Int.toNat_natCast] at hlab hjx hjy
  rw [mg_left] at hjx
  rw [mg_right] at hjy
  have hxn : x < (nodesI C.W C.H C.T).toNat := by omega
  have hyn : y < (nodesI C.W C.H C.T).toNat := by omega
  rw [dl_get C hxn] at ha
  rw [dl_get C hyn] at hb
  subst ha hb
  refine ⟨fun h1 h2 h3 => ?_, fun hno => ?_⟩
  · rw [hlab]; exact short_yes h1 h2 h3
  · obtain ⟨n1, n2⟩ := short_no hnd hno
    rw [dl_get (turned C A c q) hxn, dl_get (turned C A c q) hyn, hjx, hjy, hlab]
    exact ⟨n1, n2, n2⟩
end Go.Proofs.Ytakccepilbmmlaa
