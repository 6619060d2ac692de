/- Walks of filigreeref28: hor, ver: all tracks of a place, put behind a list. · Walk of filigreeref28.corner: the tracks t at a corner. · Walk of filigreeref28.switches: a node's switches as its page tells them. · filigreeref28.switches of any node; append in a region that draws its order. · Walk of filigreeref28.put: a number put in order among others, once. · Walk of filigreeref28.near: all nodes to which each node has a switch. · Walk of filigreeref28.Edges, Near: the document's switches are those of the program. -/
import Derived.Test.YtoloaecbfglaeaaGreatEdA
import Derived.Test.YtoloaecbfglaeaaGreatRefA
import Derived.Test.YtoloaecbfglaeaaGreatFabN
import Derived.Deep.RegionHeld3
import Derived.IntWalk
import Derived.Test.YtoloaecbfglaeaaGreatEdE
import Derived.Deep.RegionLaw
import Derived.Test.YtoloaecbfglaeaaGreatFabS
import Derived.Laws.MakeOwn
import Derived.Laws.EntriesVeiled

namespace Go.Proofs.YtoloaecbfglaeaaGreat
open Go.RowKit
set_option linter.unusedVariables false
set_option linter.unusedSimpArgs false

/-- blocks of other types than int stay as they were -/
def Keeps1 (w w' : World) : Prop := ∀ g t cs, Blk w g t cs → t ≠ 3 → Blk w' g t cs
/-- what hor, ver leave -/
def TrkOut (W H T : Int) (c : Nat) (x y : Int) (k : Nat) (L : List Int) (base : Nat) (w : World) (e : Ending) (w' : World) : Prop :=
  ∃ A' c', e = .returned (.slice A' (k + T.toNat) c') ∧ w'.ownsRow base 3 1 (.slice A' (k + T.toNat) c') (k + T.toNat) (ints (L ++ trk W H T c x y T.toNat)) ∧ Below base w w' ∧ Keeps1 w w'

set_option maxRecDepth 100000 in
set_option maxHeartbeats 1000000 in
theorem rhor_l (W H T x y : Int) (w : World) (base : Nat) (A : Option Addr) (k c : Nat) (L : List Int) (h : okA W H T) (hx : -100 ≤ x ∧ x ≤ 100) (hy : -100 ≤ y ∧ y ≤ 100) (hown : w.ownsRow base 3 1 (.slice A k c) k (ints L)) (hk : k ≤ 1000) (hb : base ≤ w.heap.size) :
    Calls Tryz.prog 122 #[.agg #[.int .i64 W, .int .i64 H, .int .i64 T], .int .i64 x, .int .i64 y, .slice A k c] w (TrkOut W H T 3 x y k L base w) := by
  have hh := h
  unfold okA at hh
  obtain ⟨n, hn⟩ : ∃ n : Nat, T = (n : Int) := ⟨T.toNat, by omega⟩
  have hn2 : n ≤ 16 := by omega
  have hT : T.toNat = n := by omega
  have HN := Lib.hid hn
  obtain ⟨R, hR⟩ : ∃ R, TrkOut W H T 3 x y k L base w = R := ⟨_, rfl⟩
  rw [hR]
  have HR := Lib.hid hR
  have HT := Lib.hid hT
  have HO := Lib.hid h
  have hb0 : Below base w (w.alloc (.cells #[.int .i64 W, .int .i64 H, .int .i64 T] 23)) := (Below.refl _ _).alloc hb _
  have hz0 : Keeps1 w (w.alloc (.cells #[.int .i64 W, .int .i64 H, .int .i64 T] 23)) := fun g t cs hb _ => hb.alloc _
  have Z0 := Lib.hid hz0
  have hk0 : Blk (w.alloc (.cells #[.int .i64 W, .int .i64 H, .int .i64 T] 23)) w.heap.size 23 #[.int .i64 W, .int .i64 H, .int .i64 T] := Blk.made w _ _
  have ho0 := hown.alloc (.cells #[.int .i64 W, .int .i64 H, .int .i64 T] 23)
  have B0 := Lib.hid hb0
  have K0 := Lib.hid hk0
  have O0 := Lib.hid ho0
  clear hR hT hn h hown hb0 hk0 ho0 hz0
  go_enter Tryz.func122, Tryz.ntmps122
  go_wp2_with fail
  go_loopw [3, 14] (fun v i wx => ∃ q : Nat, q ≤ n ∧ i = .int .i64 (q : Int) ∧ Below base w wx ∧ Keeps1 w wx ∧ Blk wx w.heap.size 23 #[.int .i64 W, .int .i64 H, .int .i64 T] ∧ wx.ownsRow base 3 1 v (k + q) (ints (L ++ trk W H T 3 x y q))) (fun _ i _ => n - (intOf i).toNat)
  case atStart => exact ⟨0, by omega, rfl, B0.out, Z0.out, K0.out, by simpa [trk] using O0.out⟩
  case round =>
    clear B0 K0 O0 Z0
    obtain ⟨q, hq, rfl, hbb, hzz, hkk, hoo⟩ := hrel
    have ZZ := Lib.hid hzz
    obtain ⟨AA, cc, rfl⟩ := own_slice hoo
    have BB := Lib.hid hbb
    have KK := Lib.hid hkk
    have OO := Lib.hid hoo
    have k0 : wr.cell? ⟨w.heap.size, 0, none⟩ = some (.int .i64 W) := hkk.cell 0
    have k1 : wr.cell? ⟨w.heap.size, 1, none⟩ = some (.int .i64 H) := hkk.cell 1
    have k2 : wr.cell? ⟨w.heap.size, 2, none⟩ = some (.int .i64 T) := hkk.cell 2
    have hs : base ≤ wr.heap.size := by have := hbb.size; omega
    clear hbb hkk hoo hzz
    by_cases hlt : q < n
    · have hd : decide ((q : Int) < T) = true := decide_eq_true (by rw [HN.out]; omega)
      go_wp2_with fail
      refine (rhor_any _ _ _ _ _ _ _).mono ?_
      rintro e w1 ⟨rfl, hb1⟩
      have B1 := Lib.hid (BB.out.trans (hb1.mono hs))
      have K1 := Lib.hid (KK.out.keep hb1)
      have Z1 : Hid (Keeps1 w w1) := Lib.hid (fun g t cs hb hne => (ZZ.out g t cs hb hne).keep hb1)
      have O1 := Lib.hid (own_keep OO.out hb1)
      have hs1 : base ≤ w1.heap.size := by have := hb1.size; omega
      clear hb1 k0 k1 k2
      obtain ⟨z, hz⟩ : ∃ z, nodeN W H T 3 x y (q : Int) = z := ⟨_, rfl⟩
      have HZ := Lib.hid hz
      rw [hz]
      clear hz
      go_wp2_with (at_builtin; refine wpList_app_int rfl (.tmp 25) (.tmp 27) rfl base AA (k + q) cc _ rfl O1.out z rfl (by omega) hs1 ?_)
      intro A2 c2 w2 hown2 hg2
      have B2 := Lib.hid ((B1.out.alloc hs1 (.cells #[.int .i64 z] 3)).grown hg2 (by simp; omega) (fun j hj => own_base O1.out hj))
      have K2 := Lib.hid ((K1.out.alloc (.cells #[.int .i64 z] 3)).grown hg2 (fun e => own_other O1.out K1.out (by decide) e.symm))
      have Z2 : Hid (Keeps1 w w2) := Lib.hid (fun g t cs hb hne => ((Z1.out g t cs hb hne).alloc (.cells #[.int .i64 z] 3)).grown hg2 (fun e => own_other O1.out (Z1.out g t cs hb hne) (fun he => hne he.symm) e.symm))
      have O2 := Lib.hid hown2
      clear hown2 hg2
      go_wp2_with fail
      go_roundw
      case rel => exact ⟨q + 1, by omega, by go_num, B2.out, Z2.out, K2.out, by rw [trk_succ, HZ.out]; exact O2.out⟩
      case measure => simp [intOf]; omega
    · obtain rfl : q = n := by omega
      have hd : decide ((q : Int) < T) = false := decide_eq_false (by rw [HN.out]; omega)
      go_wp2_with fail
      rw [← HR.out]
      exact ⟨AA, cc, by rw [HT.out]; rfl, by rw [HT.out]; exact OO.out, BB.out, ZZ.out⟩

set_option maxRecDepth 100000 in
set_option maxHeartbeats 1000000 in
theorem rver_l (W H T x y : Int) (w : World) (base : Nat) (A : Option Addr) (k c : Nat) (L : List Int) (h : okA W H T) (hx : -100 ≤ x ∧ x ≤ 100) (hy : -100 ≤ y ∧ y ≤ 100) (hown : w.ownsRow base 3 1 (.slice A k c) k (ints L)) (hk : k ≤ 1000) (hb : base ≤ w.heap.size) :
    Calls Tryz.prog 121 #[.agg #[.int .i64 W, .int .i64 H, .int .i64 T], .int .i64 x, .int .i64 y, .slice A k c] w (TrkOut W H T 4 x y k L base w) := by
  have hh := h
  unfold okA at hh
  obtain ⟨n, hn⟩ : ∃ n : Nat, T = (n : Int) := ⟨T.toNat, by omega⟩
  have hn2 : n ≤ 16 := by omega
  have hT : T.toNat = n := by omega
  have HN := Lib.hid hn
  obtain ⟨R, hR⟩ : ∃ R, TrkOut W H T 4 x y k L base w = R := ⟨_, rfl⟩
  rw [hR]
  have HR := Lib.hid hR
  have HT := Lib.hid hT
  have HO := Lib.hid h
  have hb0 : Below base w (w.alloc (.cells #[.int .i64 W, .int .i64 H, .int .i64 T] 23)) := (Below.refl _ _).alloc hb _
  have hz0 : Keeps1 w (w.alloc (.cells #[.int .i64 W, .int .i64 H, .int .i64 T] 23)) := fun g t cs hb _ => hb.alloc _
  have Z0 := Lib.hid hz0
  have hk0 : Blk (w.alloc (.cells #[.int .i64 W, .int .i64 H, .int .i64 T] 23)) w.heap.size 23 #[.int .i64 W, .int .i64 H, .int .i64 T] := Blk.made w _ _
  have ho0 := hown.alloc (.cells #[.int .i64 W, .int .i64 H, .int .i64 T] 23)
  have B0 := Lib.hid hb0
  have K0 := Lib.hid hk0
  have O0 := Lib.hid ho0
  clear hR hT hn h hown hb0 hk0 ho0 hz0
  go_enter Tryz.func121, Tryz.ntmps121
  go_wp2_with fail
  go_loopw [3, 14] (fun v i wx => ∃ q : Nat, q ≤ n ∧ i = .int .i64 (q : Int) ∧ Below base w wx ∧ Keeps1 w wx ∧ Blk wx w.heap.size 23 #[.int .i64 W, .int .i64 H, .int .i64 T] ∧ wx.ownsRow base 3 1 v (k + q) (ints (L ++ trk W H T 4 x y q))) (fun _ i _ => n - (intOf i).toNat)
  case atStart => exact ⟨0, by omega, rfl, B0.out, Z0.out, K0.out, by simpa [trk] using O0.out⟩
  case round =>
    clear B0 K0 O0 Z0
    obtain ⟨q, hq, rfl, hbb, hzz, hkk, hoo⟩ := hrel
    have ZZ := Lib.hid hzz
    obtain ⟨AA, cc, rfl⟩ := own_slice hoo
    have BB := Lib.hid hbb
    have KK := Lib.hid hkk
    have OO := Lib.hid hoo
    have k0 : wr.cell? ⟨w.heap.size, 0, none⟩ = some (.int .i64 W) := hkk.cell 0
    have k1 : wr.cell? ⟨w.heap.size, 1, none⟩ = some (.int .i64 H) := hkk.cell 1
    have k2 : wr.cell? ⟨w.heap.size, 2, none⟩ = some (.int .i64 T) := hkk.cell 2
    have hs : base ≤ wr.heap.size := by have := hbb.size; omega
    clear hbb hkk hoo hzz
    by_cases hlt : q < n
    · have hd : decide ((q : Int) < T) = true := decide_eq_true (by rw [HN.out]; omega)
      go_wp2_with fail
      refine (rver_any _ _ _ _ _ _ _).mono ?_
      rintro e w1 ⟨rfl, hb1⟩
      have B1 := Lib.hid (BB.out.trans (hb1.mono hs))
      have K1 := Lib.hid (KK.out.keep hb1)
      have Z1 : Hid (Keeps1 w w1) := Lib.hid (fun g t cs hb hne => (ZZ.out g t cs hb hne).keep hb1)
      have O1 := Lib.hid (own_keep OO.out hb1)
      have hs1 : base ≤ w1.heap.size := by have := hb1.size; omega
      clear hb1 k0 k1 k2
      obtain ⟨z, hz⟩ : ∃ z, nodeN W H T 4 x y (q : Int) = z := ⟨_, rfl⟩
      have HZ := Lib.hid hz
      rw [hz]
      clear hz
      go_wp2_with (at_builtin; refine wpList_app_int rfl (.tmp 25) (.tmp 27) rfl base AA (k + q) cc _ rfl O1.out z rfl (by omega) hs1 ?_)
      intro A2 c2 w2 hown2 hg2
      have B2 := Lib.hid ((B1.out.alloc hs1 (.cells #[.int .i64 z] 3)).grown hg2 (by simp; omega) (fun j hj => own_base O1.out hj))
      have K2 := Lib.hid ((K1.out.alloc (.cells #[.int .i64 z] 3)).grown hg2 (fun e => own_other O1.out K1.out (by decide) e.symm))
      have Z2 : Hid (Keeps1 w w2) := Lib.hid (fun g t cs hb hne => ((Z1.out g t cs hb hne).alloc (.cells #[.int .i64 z] 3)).grown hg2 (fun e => own_other O1.out (Z1.out g t cs hb hne) (fun he => hne he.symm) e.symm))
      have O2 := Lib.hid hown2
      clear hown2 hg2
      go_wp2_with fail
      go_roundw
      case rel => exact ⟨q + 1, by omega, by go_num, B2.out, Z2.out, K2.out, by rw [trk_succ, HZ.out]; exact O2.out⟩
      case measure => simp [intOf]; omega
    · obtain rfl : q = n := by omega
      have hd : decide ((q : Int) < T) = false := decide_eq_false (by rw [HN.out]; omega)
      go_wp2_with fail
      rw [← HR.out]
      exact ⟨AA, cc, by rw [HT.out]; rfl, by rw [HT.out]; exact OO.out, BB.out, ZZ.out⟩
end Go.Proofs.YtoloaecbfglaeaaGreat

namespace Go.Proofs.YtoloaecbfglaeaaGreat
open Go.RowKit
set_option linter.unusedVariables false
set_option linter.unusedSimpArgs false

/-- what corner leaves -/
def CrnOut (W H T x y t : Int) (w : World) (e : Ending) (w' : World) : Prop :=
  ∃ A c, e = .returned (.slice A (hereTo W H T x y t 4).length c) ∧ w'.ownsRow w.heap.size 3 1 (.slice A (hereTo W H T x y t 4).length c) (hereTo W H T x y t 4).length (ints (hereTo W H T x y t 4)) ∧ Below w.heap.size w w'
theorem crn_out {W H T x y t : Int} {w w' : World} {A : Option Addr} {c k : Nat} {L : List Int} (hL : hereTo W H T x y t 4 = L) (hk : L.length = k) (ho : w'.ownsRow w.heap.size 3 1 (.slice A k c) k (ints L)) (hb : Below w.heap.size w w') : CrnOut W H T x y t w (.returned (.slice A k c)) w' := by
  subst hk
  refine ⟨A, c, ?_, ?_, hb⟩
  · rw [hL]
  · rw [hL]; exact ho

set_option maxRecDepth 100000 in
set_option maxHeartbeats 4000000 in
theorem corner_any (W H T x y t : Int) (w : World) (hx : -100 ≤ x ∧ x ≤ 100) (hy : -100 ≤ y ∧ y ≤ 100) :
    Calls Tryz.prog 123 #[.agg #[.int .i64 W, .int .i64 H, .int .i64 T], .int .i64 x, .int .i64 y, .int .i64 t] w (CrnOut W H T x y t w) := by
  obtain ⟨R, hR⟩ : ∃ R, CrnOut W H T x y t w = R := ⟨_, rfl⟩
  rw [hR]
  have HR := Lib.hid hR
  have hb0 : Below w.heap.size w (w.alloc (.cells #[.int .i64 W, .int .i64 H, .int .i64 T] 23)) := (Below.refl _ _).alloc (Nat.le_refl _) _
  have hk0 : Blk (w.alloc (.cells #[.int .i64 W, .int .i64 H, .int .i64 T] 23)) w.heap.size 23 #[.int .i64 W, .int .i64 H, .int .i64 T] := Blk.made w _ _
  have ho0 : (w.alloc (.cells #[.int .i64 W, .int .i64 H, .int .i64 T] 23)).ownsRow w.heap.size 3 1 (.slice none 0 0) 0 (ints []) := World.ownsRow_nil _ _ _ _
  have B0 := Lib.hid hb0
  have K0 := Lib.hid hk0
  have O0 := Lib.hid ho0
  clear hR hb0 hk0 ho0
  go_enter Tryz.func123, Tryz.ntmps123
  go_wp2_with fail
  refine (rhor_any _ _ _ _ _ _ _).mono ?_
  rintro e w0a ⟨rfl, hb1⟩
  have BA0 := Lib.hid (below_then B0.out hb1)
  have KA0 := Lib.hid (K0.out.keep hb1)
  have OA0 := Lib.hid (own_keep O0.out hb1)
  have k00 : w0a.cell? ⟨w.heap.size, 0, none⟩ = some (.int .i64 W) := KA0.out.cell 0
  have k01 : w0a.cell? ⟨w.heap.size, 1, none⟩ = some (.int .i64 H) := KA0.out.cell 1
  have k02 : w0a.cell? ⟨w.heap.size, 2, none⟩ = some (.int .i64 T) := KA0.out.cell 2
  have hs0 : w.heap.size ≤ w0a.heap.size := BA0.out.size
  clear hb1
  rcases nodeE_01 W H T 3 (x - 1) y t with he0 | he0
  · rw [he0]
    have HE0 := Lib.hid he0
    obtain ⟨z0, hz0⟩ : ∃ z, nodeN W H T 3 (x - 1) y t = z := ⟨_, rfl⟩
    have HZ0 := Lib.hid hz0
    rw [hz0]
    clear hz0 he0
    go_wp2_with (at_builtin; refine wpList_app_int rfl (.tmp 29) (.tmp 31) rfl w.heap.size none 0 0 [] rfl OA0.out z0 rfl (by omega) hs0 ?_)
    intro A0 c0 w0b hown2 hg2
    have BB0 := Lib.hid ((BA0.out.alloc hs0 (.cells #[.int .i64 z0] 3)).grown hg2 (by simp; omega) (fun j hj => own_base OA0.out hj))
    have KB0 := Lib.hid ((KA0.out.alloc (.cells #[.int .i64 z0] 3)).grown hg2 (fun e => own_other OA0.out KA0.out (by decide) e.symm))
    have OB0 := Lib.hid hown2
    have j00 : w0b.cell? ⟨w.heap.size, 0, none⟩ = some (.int .i64 W) := KB0.out.cell 0
    have j01 : w0b.cell? ⟨w.heap.size, 1, none⟩ = some (.int .i64 H) := KB0.out.cell 1
    have j02 : w0b.cell? ⟨w.heap.size, 2, none⟩ = some (.int .i64 T) := KB0.out.cell 2
    clear hown2 hg2 k00 k01 k02
    go_wp2_with fail
    refine (rhor_any _ _ _ _ _ _ _).mono ?_
    rintro e w1a ⟨rfl, hb1⟩
    have BA1 := Lib.hid (below_then BB0.out hb1)
    have KA1 := Lib.hid (KB0.out.keep hb1)
    have OA1 := Lib.hid (own_keep OB0.out hb1)
    have k10 : w1a.cell? ⟨w.heap.size, 0, none⟩ = some (.int .i64 W) := KA1.out.cell 0
    have k11 : w1a.cell? ⟨w.heap.size, 1, none⟩ = some (.int .i64 H) := KA1.out.cell 1
    have k12 : w1a.cell? ⟨w.heap.size, 2, none⟩ = some (.int .i64 T) := KA1.out.cell 2
    have hs1 : w.heap.size ≤ w1a.heap.size := BA1.out.size
    clear hb1
    rcases nodeE_01 W H T 3 x y t with he1 | he1
    · rw [he1]
      have HE1 := Lib.hid he1
      obtain ⟨z1, hz1⟩ : ∃ z, nodeN W H T 3 x y t = z := ⟨_, rfl⟩
      have HZ1 := Lib.hid hz1
      rw [hz1]
      clear hz1 he1
      go_wp2_with (at_builtin; refine wpList_app_int rfl (.tmp 43) (.tmp 45) rfl w.heap.size A0 (0 + 1) c0 ([] ++ [z0]) rfl OA1.out z1 rfl (by omega) hs1 ?_)
      intro A1 c1 w1b hown2 hg2
      have BB1 := Lib.hid ((BA1.out.alloc hs1 (.cells #[.int .i64 z1] 3)).grown hg2 (by simp; omega) (fun j hj => own_base OA1.out hj))
      have KB1 := Lib.hid ((KA1.out.alloc (.cells #[.int .i64 z1] 3)).grown hg2 (fun e => own_other OA1.out KA1.out (by decide) e.symm))
      have OB1 := Lib.hid hown2
      have j10 : w1b.cell? ⟨w.heap.size, 0, none⟩ = some (.int .i64 W) := KB1.out.cell 0
      have j11 : w1b.cell? ⟨w.heap.size, 1, none⟩ = some (.int .i64 H) := KB1.out.cell 1
      have j12 : w1b.cell? ⟨w.heap.size, 2, none⟩ = some (.int .i64 T) := KB1.out.cell 2
      clear hown2 hg2 k10 k11 k12
      go_wp2_with fail
      refine (rver_any _ _ _ _ _ _ _).mono ?_
      rintro e w2a ⟨rfl, hb1⟩
      have BA2 := Lib.hid (below_then BB1.out hb1)
      have KA2 := Lib.hid (KB1.out.keep hb1)
      have OA2 := Lib.hid (own_keep OB1.out hb1)
      have k20 : w2a.cell? ⟨w.heap.size, 0, none⟩ = some (.int .i64 W) := KA2.out.cell 0
      have k21 : w2a.cell? ⟨w.heap.size, 1, none⟩ = some (.int .i64 H) := KA2.out.cell 1
      have k22 : w2a.cell? ⟨w.heap.size, 2, none⟩ = some (.int .i64 T) := KA2.out.cell 2
      have hs2 : w.heap.size ≤ w2a.heap.size := BA2.out.size
      clear hb1
      rcases nodeE_01 W H T 4 x (y - 1) t with he2 | he2
      · rw [he2]
        have HE2 := Lib.hid he2
        obtain ⟨z2, hz2⟩ : ∃ z, nodeN W H T 4 x (y - 1) t = z := ⟨_, rfl⟩
        have HZ2 := Lib.hid hz2
        rw [hz2]
        clear hz2 he2
        go_wp2_with (at_builtin; refine wpList_app_int rfl (.tmp 58) (.tmp 60) rfl w.heap.size A1 ((0 + 1) + 1) c1 (([] ++ [z0]) ++ [z1]) rfl OA2.out z2 rfl (by omega) hs2 ?_)
        intro A2 c2 w2b hown2 hg2
        have BB2 := Lib.hid ((BA2.out.alloc hs2 (.cells #[.int .i64 z2] 3)).grown hg2 (by simp; omega) (fun j hj => own_base OA2.out hj))
        have KB2 := Lib.hid ((KA2.out.alloc (.cells #[.int .i64 z2] 3)).grown hg2 (fun e => own_other OA2.out KA2.out (by decide) e.symm))
        have OB2 := Lib.hid hown2
        have j20 : w2b.cell? ⟨w.heap.size, 0, none⟩ = some (.int .i64 W) := KB2.out.cell 0
        have j21 : w2b.cell? ⟨w.heap.size, 1, none⟩ = some (.int .i64 H) := KB2.out.cell 1
        have j22 : w2b.cell? ⟨w.heap.size, 2, none⟩ = some (.int .i64 T) := KB2.out.cell 2
        clear hown2 hg2 k20 k21 k22
        go_wp2_with fail
        refine (rver_any _ _ _ _ _ _ _).mono ?_
        rintro e w3a ⟨rfl, hb1⟩
        have BA3 := Lib.hid (below_then BB2.out hb1)
        have KA3 := Lib.hid (KB2.out.keep hb1)
        have OA3 := Lib.hid (own_keep OB2.out hb1)
        have k30 : w3a.cell? ⟨w.heap.size, 0, none⟩ = some (.int .i64 W) := KA3.out.cell 0
        have k31 : w3a.cell? ⟨w.heap.size, 1, none⟩ = some (.int .i64 H) := KA3.out.cell 1
        have k32 : w3a.cell? ⟨w.heap.size, 2, none⟩ = some (.int .i64 T) := KA3.out.cell 2
        have hs3 : w.heap.size ≤ w3a.heap.size := BA3.out.size
        clear hb1
        rcases nodeE_01 W H T 4 x y t with he3 | he3
        · rw [he3]
          have HE3 := Lib.hid he3
          obtain ⟨z3, hz3⟩ : ∃ z, nodeN W H T 4 x y t = z := ⟨_, rfl⟩
          have HZ3 := Lib.hid hz3
          rw [hz3]
          clear hz3 he3
          go_wp2_with (at_builtin; refine wpList_app_int rfl (.tmp 72) (.tmp 74) rfl w.heap.size A2 (((0 + 1) + 1) + 1) c2 ((([] ++ [z0]) ++ [z1]) ++ [z2]) rfl OA3.out z3 rfl (by omega) hs3 ?_)
          intro A3 c3 w3b hown2 hg2
          have BB3 := Lib.hid ((BA3.out.alloc hs3 (.cells #[.int .i64 z3] 3)).grown hg2 (by simp; omega) (fun j hj => own_base OA3.out hj))
          have KB3 := Lib.hid ((KA3.out.alloc (.cells #[.int .i64 z3] 3)).grown hg2 (fun e => own_other OA3.out KA3.out (by decide) e.symm))
          have OB3 := Lib.hid hown2
          have j30 : w3b.cell? ⟨w.heap.size, 0, none⟩ = some (.int .i64 W) := KB3.out.cell 0
          have j31 : w3b.cell? ⟨w.heap.size, 1, none⟩ = some (.int .i64 H) := KB3.out.cell 1
          have j32 : w3b.cell? ⟨w.heap.size, 2, none⟩ = some (.int .i64 T) := KB3.out.cell 2
          clear hown2 hg2 k30 k31 k32
          go_wp2_with fail
          rw [← HR.out]
          refine crn_out (L := (((([] ++ [z0]) ++ [z1]) ++ [z2]) ++ [z3])) ?_ (by rfl) OB3.out BB3.out
          simp only [hereTo, coC, coX, coY, HE0.out, HE1.out, HE2.out, HE3.out, HZ0.out, HZ1.out, HZ2.out, HZ3.out]
          simp
        · rw [he3]
          have HE3 := Lib.hid he3
          clear he3
          go_wp2_with fail
          rw [← HR.out]
          refine crn_out (L := ((([] ++ [z0]) ++ [z1]) ++ [z2])) ?_ (by rfl) OA3.out BA3.out
          simp only [hereTo, coC, coX, coY, HE0.out, HE1.out, HE2.out, HE3.out, HZ0.out, HZ1.out, HZ2.out]
          simp
      · rw [he2]
        have HE2 := Lib.hid he2
        clear he2
        go_wp2_with fail
        refine (rver_any _ _ _ _ _ _ _).mono ?_
        rintro e w3a ⟨rfl, hb1⟩
        have BA3 := Lib.hid (below_then BA2.out hb1)
        have KA3 := Lib.hid (KA2.out.keep hb1)
        have OA3 := Lib.hid (own_keep OA2.out hb1)
        have k30 : w3a.cell? ⟨w.heap.size, 0, none⟩ = some (.int .i64 W) := KA3.out.cell 0
        have k31 : w3a.cell? ⟨w.heap.size, 1, none⟩ = some (.int .i64 H) := KA3.out.cell 1
        have k32 : w3a.cell? ⟨w.heap.size, 2, none⟩ = some (.int .i64 T) := KA3.out.cell 2
        have hs3 : w.heap.size ≤ w3a.heap.size := BA3.out.size
        clear hb1
        rcases nodeE_01 W H T 4 x y t with he3 | he3
        · rw [he3]
          have HE3 := Lib.hid he3
          obtain ⟨z3, hz3⟩ : ∃ z, nodeN W H T 4 x y t = z := ⟨_, rfl⟩
          have HZ3 := Lib.hid hz3
          rw [hz3]
          clear hz3 he3
          go_wp2_with (at_builtin; refine wpList_app_int rfl (.tmp 72) (.tmp 74) rfl w.heap.size A1 ((0 + 1) + 1) c1 (([] ++ [z0]) ++ [z1]) rfl OA3.out z3 rfl (by omega) hs3 ?_)
          intro A3 c3 w3b hown2 hg2
          have BB3 := Lib.hid ((BA3.out.alloc hs3 (.cells #[.int .i64 z3] 3)).grown hg2 (by simp; omega) (fun j hj => own_base OA3.out hj))
          have KB3 := Lib.hid ((KA3.out.alloc (.cells #[.int .i64 z3] 3)).grown hg2 (fun e => own_other OA3.out KA3.out (by decide) e.symm))
          have OB3 := Lib.hid hown2
          have j30 : w3b.cell? ⟨w.heap.size, 0, none⟩ = some (.int .i64 W) := KB3.out.cell 0
          have j31 : w3b.cell? ⟨w.heap.size, 1, none⟩ = some (.int .i64 H) := KB3.out.cell 1
          have j32 : w3b.cell? ⟨w.heap.size, 2, none⟩ = some (.int .i64 T) := KB3.out.cell 2
          clear hown2 hg2 k30 k31 k32
          go_wp2_with fail
          rw [← HR.out]
          refine crn_out (L := ((([] ++ [z0]) ++ [z1]) ++ [z3])) ?_ (by rfl) OB3.out BB3.out
          simp only [hereTo, coC, coX, coY, HE0.out, HE1.out, HE2.out, HE3.out, HZ0.out, HZ1.out, HZ3.out]
          simp
        · rw [he3]
          have HE3 := Lib.hid he3
          clear he3
          go_wp2_with fail
          rw [← HR.out]
          refine crn_out (L := (([] ++ [z0]) ++ [z1])) ?_ (by rfl) OA3.out BA3.out
          simp only [hereTo, coC, coX, coY, HE0.out, HE1.out, HE2.out, HE3.out, HZ0.out, HZ1.out]
          simp
    · rw [he1]
      have HE1 := Lib.hid he1
      clear he1
      go_wp2_with fail
      refine (rver_any _ _ _ _ _ _ _).mono ?_
      rintro e w2a ⟨rfl, hb1⟩
      have BA2 := Lib.hid (below_then BA1.out hb1)
      have KA2 := Lib.hid (KA1.out.keep hb1)
      have OA2 := Lib.hid (own_keep OA1.out hb1)
      have k20 : w2a.cell? ⟨w.heap.size, 0, none⟩ = some (.int .i64 W) := KA2.out.cell 0
      have k21 : w2a.cell? ⟨w.heap.size, 1, none⟩ = some (.int .i64 H) := KA2.out.cell 1
      have k22 : w2a.cell? ⟨w.heap.size, 2, none⟩ = some (.int .i64 T) := KA2.out.cell 2
      have hs2 : w.heap.size ≤ w2a.heap.size := BA2.out.size
      clear hb1
      rcases nodeE_01 W H T 4 x (y - 1) t with he2 | he2
      · rw [he2]
        have HE2 := Lib.hid he2
        obtain ⟨z2, hz2⟩ : ∃ z, nodeN W H T 4 x (y - 1) t = z := ⟨_, rfl⟩
        have HZ2 := Lib.hid hz2
        rw [hz2]
        clear hz2 he2
        go_wp2_with (at_builtin; refine wpList_app_int rfl (.tmp 58) (.tmp 60) rfl w.heap.size A0 (0 + 1) c0 ([] ++ [z0]) rfl OA2.out z2 rfl (by omega) hs2 ?_)
        intro A2 c2 w2b hown2 hg2
        have BB2 := Lib.hid ((BA2.out.alloc hs2 (.cells #[.int .i64 z2] 3)).grown hg2 (by simp; omega) (fun j hj => own_base OA2.out hj))
        have KB2 := Lib.hid ((KA2.out.alloc (.cells #[.int .i64 z2] 3)).grown hg2 (fun e => own_other OA2.out KA2.out (by decide) e.symm))
        have OB2 := Lib.hid hown2
        have j20 : w2b.cell? ⟨w.heap.size, 0, none⟩ = some (.int .i64 W) := KB2.out.cell 0
        have j21 : w2b.cell? ⟨w.heap.size, 1, none⟩ = some (.int .i64 H) := KB2.out.cell 1
        have j22 : w2b.cell? ⟨w.heap.size, 2, none⟩ = some (.int .i64 T) := KB2.out.cell 2
        clear hown2 hg2 k20 k21 k22
        go_wp2_with fail
        refine (rver_any _ _ _ _ _ _ _).mono ?_
        rintro e w3a ⟨rfl, hb1⟩
        have BA3 := Lib.hid (below_then BB2.out hb1)
        have KA3 := Lib.hid (KB2.out.keep hb1)
        have OA3 := Lib.hid (own_keep OB2.out hb1)
        have k30 : w3a.cell? ⟨w.heap.size, 0, none⟩ = some (.int .i64 W) := KA3.out.cell 0
        have k31 : w3a.cell? ⟨w.heap.size, 1, none⟩ = some (.int .i64 H) := KA3.out.cell 1
        have k32 : w3a.cell? ⟨w.heap.size, 2, none⟩ = some (.int .i64 T) := KA3.out.cell 2
        have hs3 : w.heap.size ≤ w3a.heap.size := BA3.out.size
        clear hb1
        rcases nodeE_01 W H T 4 x y t with he3 | he3
        · rw [he3]
          have HE3 := Lib.hid he3
          obtain ⟨z3, hz3⟩ : ∃ z, nodeN W H T 4 x y t = z := ⟨_, rfl⟩
          have HZ3 := Lib.hid hz3
          rw [hz3]
          clear hz3 he3
          go_wp2_with (at_builtin; refine wpList_app_int rfl (.tmp 72) (.tmp 74) rfl w.heap.size A2 ((0 + 1) + 1) c2 (([] ++ [z0]) ++ [z2]) rfl OA3.out z3 rfl (by omega) hs3 ?_)
          intro A3 c3 w3b hown2 hg2
          have BB3 := Lib.hid ((BA3.out.alloc hs3 (.cells #[.int .i64 z3] 3)).grown hg2 (by simp; omega) (fun j hj => own_base OA3.out hj))
          have KB3 := Lib.hid ((KA3.out.alloc (.cells #[.int .i64 z3] 3)).grown hg2 (fun e => own_other OA3.out KA3.out (by decide) e.symm))
          have OB3 := Lib.hid hown2
          have j30 : w3b.cell? ⟨w.heap.size, 0, none⟩ = some (.int .i64 W) := KB3.out.cell 0
          have j31 : w3b.cell? ⟨w.heap.size, 1, none⟩ = some (.int .i64 H) := KB3.out.cell 1
          have j32 : w3b.cell? ⟨w.heap.size, 2, none⟩ = some (.int .i64 T) := KB3.out.cell 2
          clear hown2 hg2 k30 k31 k32
          go_wp2_with fail
          rw [← HR.out]
          refine crn_out (L := ((([] ++ [z0]) ++ [z2]) ++ [z3])) ?_ (by rfl) OB3.out BB3.out
          simp only [hereTo, coC, coX, coY, HE0.out, HE1.out, HE2.out, HE3.out, HZ0.out, HZ2.out, HZ3.out]
          simp
        · rw [he3]
          have HE3 := Lib.hid he3
          clear he3
          go_wp2_with fail
          rw [← HR.out]
          refine crn_out (L := (([] ++ [z0]) ++ [z2])) ?_ (by rfl) OA3.out BA3.out
          simp only [hereTo, coC, coX, coY, HE0.out, HE1.out, HE2.out, HE3.out, HZ0.out, HZ2.out]
          simp
      · rw [he2]
        have HE2 := Lib.hid he2
        clear he2
        go_wp2_with fail
        refine (rver_any _ _ _ _ _ _ _).mono ?_
        rintro e w3a ⟨rfl, hb1⟩
        have BA3 := Lib.hid (below_then BA2.out hb1)
        have KA3 := Lib.hid (KA2.out.keep hb1)
        have OA3 := Lib.hid (own_keep OA2.out hb1)
        have k30 : w3a.cell? ⟨w.heap.size, 0, none⟩ = some (.int .i64 W) := KA3.out.cell 0
        have k31 : w3a.cell? ⟨w.heap.size, 1, none⟩ = some (.int .i64 H) := KA3.out.cell 1
        have k32 : w3a.cell? ⟨w.heap.size, 2, none⟩ = some (.int .i64 T) := KA3.out.cell 2
        have hs3 : w.heap.size ≤ w3a.heap.size := BA3.out.size
        clear hb1
        rcases nodeE_01 W H T 4 x y t with he3 | he3
        · rw [he3]
          have HE3 := Lib.hid he3
          obtain ⟨z3, hz3⟩ : ∃ z, nodeN W H T 4 x y t = z := ⟨_, rfl⟩
          have HZ3 := Lib.hid hz3
          rw [hz3]
          clear hz3 he3
          go_wp2_with (at_builtin; refine wpList_app_int rfl (.tmp 72) (.tmp 74) rfl w.heap.size A0 (0 + 1) c0 ([] ++ [z0]) rfl OA3.out z3 rfl (by omega) hs3 ?_)
          intro A3 c3 w3b hown2 hg2
          have BB3 := Lib.hid ((BA3.out.alloc hs3 (.cells #[.int .i64 z3] 3)).grown hg2 (by simp; omega) (fun j hj => own_base OA3.out hj))
          have KB3 := Lib.hid ((KA3.out.alloc (.cells #[.int .i64 z3] 3)).grown hg2 (fun e => own_other OA3.out KA3.out (by decide) e.symm))
          have OB3 := Lib.hid hown2
          have j30 : w3b.cell? ⟨w.heap.size, 0, none⟩ = some (.int .i64 W) := KB3.out.cell 0
          have j31 : w3b.cell? ⟨w.heap.size, 1, none⟩ = some (.int .i64 H) := KB3.out.cell 1
          have j32 : w3b.cell? ⟨w.heap.size, 2, none⟩ = some (.int .i64 T) := KB3.out.cell 2
          clear hown2 hg2 k30 k31 k32
          go_wp2_with fail
          rw [← HR.out]
          refine crn_out (L := (([] ++ [z0]) ++ [z3])) ?_ (by rfl) OB3.out BB3.out
          simp only [hereTo, coC, coX, coY, HE0.out, HE1.out, HE2.out, HE3.out, HZ0.out, HZ3.out]
          simp
        · rw [he3]
          have HE3 := Lib.hid he3
          clear he3
          go_wp2_with fail
          rw [← HR.out]
          refine crn_out (L := ([] ++ [z0])) ?_ (by rfl) OA3.out BA3.out
          simp only [hereTo, coC, coX, coY, HE0.out, HE1.out, HE2.out, HE3.out, HZ0.out]
          simp
  · rw [he0]
    have HE0 := Lib.hid he0
    clear he0
    go_wp2_with fail
    refine (rhor_any _ _ _ _ _ _ _).mono ?_
    rintro e w1a ⟨rfl, hb1⟩
    have BA1 := Lib.hid (below_then BA0.out hb1)
    have KA1 := Lib.hid (KA0.out.keep hb1)
    have OA1 := Lib.hid (own_keep OA0.out hb1)
    have k10 : w1a.cell? ⟨w.heap.size, 0, none⟩ = some (.int .i64 W) := KA1.out.cell 0
    have k11 : w1a.cell? ⟨w.heap.size, 1, none⟩ = some (.int .i64 H) := KA1.out.cell 1
    have k12 : w1a.cell? ⟨w.heap.size, 2, none⟩ = some (.int .i64 T) := KA1.out.cell 2
    have hs1 : w.heap.size ≤ w1a.heap.size := BA1.out.size
    clear hb1
    rcases nodeE_01 W H T 3 x y t with he1 | he1
    · rw [he1]
      have HE1 := Lib.hid he1
      obtain ⟨z1, hz1⟩ : ∃ z, nodeN W H T 3 x y t = z := ⟨_, rfl⟩
      have HZ1 := Lib.hid hz1
      rw [hz1]
      clear hz1 he1
      go_wp2_with (at_builtin; refine wpList_app_int rfl (.tmp 43) (.tmp 45) rfl w.heap.size none 0 0 [] rfl OA1.out z1 rfl (by omega) hs1 ?_)
      intro A1 c1 w1b hown2 hg2
      have BB1 := Lib.hid ((BA1.out.alloc hs1 (.cells #[.int .i64 z1] 3)).grown hg2 (by simp; omega) (fun j hj => own_base OA1.out hj))
      have KB1 := Lib.hid ((KA1.out.alloc (.cells #[.int .i64 z1] 3)).grown hg2 (fun e => own_other OA1.out KA1.out (by decide) e.symm))
      have OB1 := Lib.hid hown2
      have j10 : w1b.cell? ⟨w.heap.size, 0, none⟩ = some (.int .i64 W) := KB1.out.cell 0
      have j11 : w1b.cell? ⟨w.heap.size, 1, none⟩ = some (.int .i64 H) := KB1.out.cell 1
      have j12 : w1b.cell? ⟨w.heap.size, 2, none⟩ = some (.int .i64 T) := KB1.out.cell 2
      clear hown2 hg2 k10 k11 k12
      go_wp2_with fail
      refine (rver_any _ _ _ _ _ _ _).mono ?_
      rintro e w2a ⟨rfl, hb1⟩
      have BA2 := Lib.hid (below_then BB1.out hb1)
      have KA2 := Lib.hid (KB1.out.keep hb1)
      have OA2 := Lib.hid (own_keep OB1.out hb1)
      have k20 : w2a.cell? ⟨w.heap.size, 0, none⟩ = some (.int .i64 W) := KA2.out.cell 0
      have k21 : w2a.cell? ⟨w.heap.size, 1, none⟩ = some (.int .i64 H) := KA2.out.cell 1
      have k22 : w2a.cell? ⟨w.heap.size, 2, none⟩ = some (.int .i64 T) := KA2.out.cell 2
      have hs2 : w.heap.size ≤ w2a.heap.size := BA2.out.size
      clear hb1
      rcases nodeE_01 W H T 4 x (y - 1) t with he2 | he2
      · rw [he2]
        have HE2 := Lib.hid he2
        obtain ⟨z2, hz2⟩ : ∃ z, nodeN W H T 4 x (y - 1) t = z := ⟨_, rfl⟩
        have HZ2 := Lib.hid hz2
        rw [hz2]
        clear hz2 he2
        go_wp2_with (at_builtin; refine wpList_app_int rfl (.tmp 58) (.tmp 60) rfl w.heap.size A1 (0 + 1) c1 ([] ++ [z1]) rfl OA2.out z2 rfl (by omega) hs2 ?_)
        intro A2 c2 w2b hown2 hg2
        have BB2 := Lib.hid ((BA2.out.alloc hs2 (.cells #[.int .i64 z2] 3)).grown hg2 (by simp; omega) (fun j hj => own_base OA2.out hj))
        have KB2 := Lib.hid ((KA2.out.alloc (.cells #[.int .i64 z2] 3)).grown hg2 (fun e => own_other OA2.out KA2.out (by decide) e.symm))
        have OB2 := Lib.hid hown2
        have j20 : w2b.cell? ⟨w.heap.size, 0, none⟩ = some (.int .i64 W) := KB2.out.cell 0
        have j21 : w2b.cell? ⟨w.heap.size, 1, none⟩ = some (.int .i64 H) := KB2.out.cell 1
        have j22 : w2b.cell? ⟨w.heap.size, 2, none⟩ = some (.int .i64 T) := KB2.out.cell 2
        clear hown2 hg2 k20 k21 k22
        go_wp2_with fail
        refine (rver_any _ _ _ _ _ _ _).mono ?_
        rintro e w3a ⟨rfl, hb1⟩
        have BA3 := Lib.hid (below_then BB2.out hb1)
        have KA3 := Lib.hid (KB2.out.keep hb1)
        have OA3 := Lib.hid (own_keep OB2.out hb1)
        have k30 : w3a.cell? ⟨w.heap.size, 0, none⟩ = some (.int .i64 W) := KA3.out.cell 0
        have k31 : w3a.cell? ⟨w.heap.size, 1, none⟩ = some (.int .i64 H) := KA3.out.cell 1
        have k32 : w3a.cell? ⟨w.heap.size, 2, none⟩ = some (.int .i64 T) := KA3.out.cell 2
        have hs3 : w.heap.size ≤ w3a.heap.size := BA3.out.size
        clear hb1
        rcases nodeE_01 W H T 4 x y t with he3 | he3
        · rw [he3]
          have HE3 := Lib.hid he3
          obtain ⟨z3, hz3⟩ : ∃ z, nodeN W H T 4 x y t = z := ⟨_, rfl⟩
          have HZ3 := Lib.hid hz3
          rw [hz3]
          clear hz3 he3
          go_wp2_with (at_builtin; refine wpList_app_int rfl (.tmp 72) (.tmp 74) rfl w.heap.size A2 ((0 + 1) + 1) c2 (([] ++ [z1]) ++ [z2]) rfl OA3.out z3 rfl (by omega) hs3 ?_)
          intro A3 c3 w3b hown2 hg2
          have BB3 := Lib.hid ((BA3.out.alloc hs3 (.cells #[.int .i64 z3] 3)).grown hg2 (by simp; omega) (fun j hj => own_base OA3.out hj))
          have KB3 := Lib.hid ((KA3.out.alloc (.cells #[.int .i64 z3] 3)).grown hg2 (fun e => own_other OA3.out KA3.out (by decide) e.symm))
          have OB3 := Lib.hid hown2
          have j30 : w3b.cell? ⟨w.heap.size, 0, none⟩ = some (.int .i64 W) := KB3.out.cell 0
          have j31 : w3b.cell? ⟨w.heap.size, 1, none⟩ = some (.int .i64 H) := KB3.out.cell 1
          have j32 : w3b.cell? ⟨w.heap.size, 2, none⟩ = some (.int .i64 T) := KB3.out.cell 2
          clear hown2 hg2 k30 k31 k32
          go_wp2_with fail
          rw [← HR.out]
          refine crn_out (L := ((([] ++ [z1]) ++ [z2]) ++ [z3])) ?_ (by rfl) OB3.out BB3.out
          simp only [hereTo, coC, coX, coY, HE0.out, HE1.out, HE2.out, HE3.out, HZ1.out, HZ2.out, HZ3.out]
          simp
        · rw [he3]
          have HE3 := Lib.hid he3
          clear he3
          go_wp2_with fail
          rw [← HR.out]
          refine crn_out (L := (([] ++ [z1]) ++ [z2])) ?_ (by rfl) OA3.out BA3.out
          simp only [hereTo, coC, coX, coY, HE0.out, HE1.out, HE2.out, HE3.out, HZ1.out, HZ2.out]
          simp
      · rw [he2]
        have HE2 := Lib.hid he2
        clear he2
        go_wp2_with fail
        refine (rver_any _ _ _ _ _ _ _).mono ?_
        rintro e w3a ⟨rfl, hb1⟩
        have BA3 := Lib.hid (below_then BA2.out hb1)
        have KA3 := Lib.hid (KA2.out.keep hb1)
        have OA3 := Lib.hid (own_keep OA2.out hb1)
        have k30 : w3a.cell? ⟨w.heap.size, 0, none⟩ = some (.int .i64 W) := KA3.out.cell 0
        have k31 : w3a.cell? ⟨w.heap.size, 1, none⟩ = some (.int .i64 H) := KA3.out.cell 1
        have k32 : w3a.cell? ⟨w.heap.size, 2, none⟩ = some (.int .i64 T) := KA3.out.cell 2
        have hs3 : w.heap.size ≤ w3a.heap.size := BA3.out.size
        clear hb1
        rcases nodeE_01 W H T 4 x y t with he3 | he3
        · rw [he3]
          have HE3 := Lib.hid he3
          obtain ⟨z3, hz3⟩ : ∃ z, nodeN W H T 4 x y t = z := ⟨_, rfl⟩
          have HZ3 := Lib.hid hz3
          rw [hz3]
          clear hz3 he3
          go_wp2_with (at_builtin; refine wpList_app_int rfl (.tmp 72) (.tmp 74) rfl w.heap.size A1 (0 + 1) c1 ([] ++ [z1]) rfl OA3.out z3 rfl (by omega) hs3 ?_)
          intro A3 c3 w3b hown2 hg2
          have BB3 := Lib.hid ((BA3.out.alloc hs3 (.cells #[.int .i64 z3] 3)).grown hg2 (by simp; omega) (fun j hj => own_base OA3.out hj))
          have KB3 := Lib.hid ((KA3.out.alloc (.cells #[.int .i64 z3] 3)).grown hg2 (fun e => own_other OA3.out KA3.out (by decide) e.symm))
          have OB3 := Lib.hid hown2
          have j30 : w3b.cell? ⟨w.heap.size, 0, none⟩ = some (.int .i64 W) := KB3.out.cell 0
          have j31 : w3b.cell? ⟨w.heap.size, 1, none⟩ = some (.int .i64 H) := KB3.out.cell 1
          have j32 : w3b.cell? ⟨w.heap.size, 2, none⟩ = some (.int .i64 T) := KB3.out.cell 2
          clear hown2 hg2 k30 k31 k32
          go_wp2_with fail
          rw [← HR.out]
          refine crn_out (L := (([] ++ [z1]) ++ [z3])) ?_ (by rfl) OB3.out BB3.out
          simp only [hereTo, coC, coX, coY, HE0.out, HE1.out, HE2.out, HE3.out, HZ1.out, HZ3.out]
          simp
        · rw [he3]
          have HE3 := Lib.hid he3
          clear he3
          go_wp2_with fail
          rw [← HR.out]
          refine crn_out (L := ([] ++ [z1])) ?_ (by rfl) OA3.out BA3.out
          simp only [hereTo, coC, coX, coY, HE0.out, HE1.out, HE2.out, HE3.out, HZ1.out]
          simp
    · rw [he1]
      have HE1 := Lib.hid he1
      clear he1
      go_wp2_with fail
      refine (rver_any _ _ _ _ _ _ _).mono ?_
      rintro e w2a ⟨rfl, hb1⟩
      have BA2 := Lib.hid (below_then BA1.out hb1)
      have KA2 := Lib.hid (KA1.out.keep hb1)
      have OA2 := Lib.hid (own_keep OA1.out hb1)
      have k20 : w2a.cell? ⟨w.heap.size, 0, none⟩ = some (.int .i64 W) := KA2.out.cell 0
      have k21 : w2a.cell? ⟨w.heap.size, 1, none⟩ = some (.int .i64 H) := KA2.out.cell 1
      have k22 : w2a.cell? ⟨w.heap.size, 2, none⟩ = some (.int .i64 T) := KA2.out.cell 2
      have hs2 : w.heap.size ≤ w2a.heap.size := BA2.out.size
      clear hb1
      rcases nodeE_01 W H T 4 x (y - 1) t with he2 | he2
      · rw [he2]
        have HE2 := Lib.hid he2
        obtain ⟨z2, hz2⟩ : ∃ z, nodeN W H T 4 x (y - 1) t = z := ⟨_, rfl⟩
        have HZ2 := Lib.hid hz2
        rw [hz2]
        clear hz2 he2
        go_wp2_with (at_builtin; refine wpList_app_int rfl (.tmp 58) (.tmp 60) rfl w.heap.size none 0 0 [] rfl OA2.out z2 rfl (by omega) hs2 ?_)
        intro A2 c2 w2b hown2 hg2
        have BB2 := Lib.hid ((BA2.out.alloc hs2 (.cells #[.int .i64 z2] 3)).grown hg2 (by simp; omega) (fun j hj => own_base OA2.out hj))
        have KB2 := Lib.hid ((KA2.out.alloc (.cells #[.int .i64 z2] 3)).grown hg2 (fun e => own_other OA2.out KA2.out (by decide) e.symm))
        have OB2 := Lib.hid hown2
        have j20 : w2b.cell? ⟨w.heap.size, 0, none⟩ = some (.int .i64 W) := KB2.out.cell 0
        have j21 : w2b.cell? ⟨w.heap.size, 1, none⟩ = some (.int .i64 H) := KB2.out.cell 1
        have j22 : w2b.cell? ⟨w.heap.size, 2, none⟩ = some (.int .i64 T) := KB2.out.cell 2
        clear hown2 hg2 k20 k21 k22
        go_wp2_with fail
        refine (rver_any _ _ _ _ _ _ _).mono ?_
        rintro e w3a ⟨rfl, hb1⟩
        have BA3 := Lib.hid (below_then BB2.out hb1)
        have KA3 := Lib.hid (KB2.out.keep hb1)
        have OA3 := Lib.hid (own_keep OB2.out hb1)
        have k30 : w3a.cell? ⟨w.heap.size, 0, none⟩ = some (.int .i64 W) := KA3.out.cell 0
        have k31 : w3a.cell? ⟨w.heap.size, 1, none⟩ = some (.int .i64 H) := KA3.out.cell 1
        have k32 : w3a.cell? ⟨w.heap.size, 2, none⟩ = some (.int .i64 T) := KA3.out.cell 2
        have hs3 : w.heap.size ≤ w3a.heap.size := BA3.out.size
        clear hb1
        rcases nodeE_01 W H T 4 x y t with he3 | he3
        · rw [he3]
          have HE3 := Lib.hid he3
          obtain ⟨z3, hz3⟩ : ∃ z, nodeN W H T 4 x y t = z := ⟨_, rfl⟩
          have HZ3 := Lib.hid hz3
          rw [hz3]
          clear hz3 he3
          go_wp2_with (at_builtin; refine wpList_app_int rfl (.tmp 72) (.tmp 74) rfl w.heap.size A2 (0 + 1) c2 ([] ++ [z2]) rfl OA3.out z3 rfl (by omega) hs3 ?_)
          intro A3 c3 w3b hown2 hg2
          have BB3 := Lib.hid ((BA3.out.alloc hs3 (.cells #[.int .i64 z3] 3)).grown hg2 (by simp; omega) (fun j hj => own_base OA3.out hj))
          have KB3 := Lib.hid ((KA3.out.alloc (.cells #[.int .i64 z3] 3)).grown hg2 (fun e => own_other OA3.out KA3.out (by decide) e.symm))
          have OB3 := Lib.hid hown2
          have j30 : w3b.cell? ⟨w.heap.size, 0, none⟩ = some (.int .i64 W) := KB3.out.cell 0
          have j31 : w3b.cell? ⟨w.heap.size, 1, none⟩ = some (.int .i64 H) := KB3.out.cell 1
          have j32 : w3b.cell? ⟨w.heap.size, 2, none⟩ = some (.int .i64 T) := KB3.out.cell 2
          clear hown2 hg2 k30 k31 k32
          go_wp2_with fail
          rw [← HR.out]
          refine crn_out (L := (([] ++ [z2]) ++ [z3])) ?_ (by rfl) OB3.out BB3.out
          simp only [hereTo, coC, coX, coY, HE0.out, HE1.out, HE2.out, HE3.out, HZ2.out, HZ3.out]
          simp
        · rw [he3]
          have HE3 := Lib.hid he3
          clear he3
          go_wp2_with fail
          rw [← HR.out]
          refine crn_out (L := ([] ++ [z2])) ?_ (by rfl) OA3.out BA3.out
          simp only [hereTo, coC, coX, coY, HE0.out, HE1.out, HE2.out, HE3.out, HZ2.out]
          simp
      · rw [he2]
        have HE2 := Lib.hid he2
        clear he2
        go_wp2_with fail
        refine (rver_any _ _ _ _ _ _ _).mono ?_
        rintro e w3a ⟨rfl, hb1⟩
        have BA3 := Lib.hid (below_then BA2.out hb1)
        have KA3 := Lib.hid (KA2.out.keep hb1)
        have OA3 := Lib.hid (own_keep OA2.out hb1)
        have k30 : w3a.cell? ⟨w.heap.size, 0, none⟩ = some (.int .i64 W) := KA3.out.cell 0
        have k31 : w3a.cell? ⟨w.heap.size, 1, none⟩ = some (.int .i64 H) := KA3.out.cell 1
        have k32 : w3a.cell? ⟨w.heap.size, 2, none⟩ = some (.int .i64 T) := KA3.out.cell 2
        have hs3 : w.heap.size ≤ w3a.heap.size := BA3.out.size
        clear hb1
        rcases nodeE_01 W H T 4 x y t with he3 | he3
        · rw [he3]
          have HE3 := Lib.hid he3
          obtain ⟨z3, hz3⟩ : ∃ z, nodeN W H T 4 x y t = z := ⟨_, rfl⟩
          have HZ3 := Lib.hid hz3
          rw [hz3]
          clear hz3 he3
          go_wp2_with (at_builtin; refine wpList_app_int rfl (.tmp 72) (.tmp 74) rfl w.heap.size none 0 0 [] rfl OA3.out z3 rfl (by omega) hs3 ?_)
          intro A3 c3 w3b hown2 hg2
          have BB3 := Lib.hid ((BA3.out.alloc hs3 (.cells #[.int .i64 z3] 3)).grown hg2 (by simp; omega) (fun j hj => own_base OA3.out hj))
          have KB3 := Lib.hid ((KA3.out.alloc (.cells #[.int .i64 z3] 3)).grown hg2 (fun e => own_other OA3.out KA3.out (by decide) e.symm))
          have OB3 := Lib.hid hown2
          have j30 : w3b.cell? ⟨w.heap.size, 0, none⟩ = some (.int .i64 W) := KB3.out.cell 0
          have j31 : w3b.cell? ⟨w.heap.size, 1, none⟩ = some (.int .i64 H) := KB3.out.cell 1
          have j32 : w3b.cell? ⟨w.heap.size, 2, none⟩ = some (.int .i64 T) := KB3.out.cell 2
          clear hown2 hg2 k30 k31 k32
          go_wp2_with fail
          rw [← HR.out]
          refine crn_out (L := ([] ++ [z3])) ?_ (by rfl) OB3.out BB3.out
          simp only [hereTo, coC, coX, coY, HE0.out, HE1.out, HE2.out, HE3.out, HZ3.out]
          simp
        · rw [he3]
          have HE3 := Lib.hid he3
          clear he3
          go_wp2_with fail
          rw [← HR.out]
          refine crn_out (L := []) ?_ (by rfl) OA3.out BA3.out
          simp only [hereTo, coC, coX, coY, HE0.out, HE1.out, HE2.out, HE3.out]
          simp
end Go.Proofs.YtoloaecbfglaeaaGreat

namespace Go.Proofs.YtoloaecbfglaeaaGreat
open Go.RowKit
set_option linter.unusedVariables false
set_option linter.unusedSimpArgs false

/-- a list of ints, in memory of the call's own -/
def RowOut (L : List Int) (w : World) (e : Ending) (w' : World) : Prop :=
  ∃ A c, e = .returned (.slice A L.length c) ∧ w'.ownsRow w.heap.size 3 1 (.slice A L.length c) L.length (ints L) ∧ Below w.heap.size w w'
theorem row_mk {L : List Int} {w w' : World} {A : Option Addr} {c k : Nat} (hk : L.length = k) (ho : w'.ownsRow w.heap.size 3 1 (.slice A k c) k (ints L)) (hb : Below w.heap.size w w') : RowOut L w (.returned (.slice A k c)) w' := by
  subst hk
  exact ⟨A, c, rfl, ho, hb⟩
theorem below_drew1 {B : Nat} {w w' : World} (h : Below B w.drew w') : Below B w w' := ⟨h.os, h.tape, h.output, h.size, h.block⟩
abbrev SW (W H T n : Int) (w : World) (R : Ending → World → Prop) : Prop := Calls Tryz.prog 107 #[.agg #[.int .i64 W, .int .i64 H, .int .i64 T], .int .i64 n] w R

set_option maxRecDepth 100000 in
set_option maxHeartbeats 2000000 in
theorem sw_in0 (W H T n x y t : Int) (w : World) (h : okA W H T) (hK : whK W H T n = 2) (hX : whX W H T n = x) (hY : whY W H T n = y) (hT : whT W H T n = t) (hx : 0 ≤ x ∧ x ≤ 64) (hy : 0 ≤ y ∧ y ≤ 64) (h0 : t = 0) :
    SW W H T n w (RowOut (trk W H T 3 x y T.toNat) w) := by
  have hh := h
  unfold okA at hh
  obtain ⟨R, hR⟩ : ∃ R, RowOut (trk W H T 3 x y T.toNat) w = R := ⟨_, rfl⟩
  unfold SW
  rw [hR]
  have HR := Lib.hid hR
  have HO := Lib.hid h
  have HK := Lib.hid hK
  have HX := Lib.hid hX
  have HY := Lib.hid hY
  have HT := Lib.hid hT
  have Q0 := Lib.hid (below_new w (.cells #[.int .i64 W, .int .i64 H, .int .i64 T] 23))
  have B0 := Lib.hid (Box3.new w (.int .i64 W) (.int .i64 H) (.int .i64 T) 23)
  have K0 := Lib.hid (Blk.made w 23 #[.int .i64 W, .int .i64 H, .int .i64 T])
  have on0 := fun (w' : World) => Lib.hid (show w'.ownsRow w.heap.size 3 1 (.slice none 0 0) 0 (ints []) from World.ownsRow_nil _ _ _ _)
  clear hR h hK hX hY hT
  go_enter Tryz.func107, Tryz.ntmps107
  go_wp2_with fail
  refine (rwhat_any _ _ _ _ _).mono ?_
  rintro e w1 ⟨rfl, hb1⟩
  rw [HK.out, HX.out, HY.out, HT.out]
  have Q1 := Lib.hid (below_then Q0.out hb1)
  have B1 := Lib.hid (Box3.below B0.out hb1)
  have K1 := Lib.hid (K0.out.keep hb1)
  have hs1 : w.heap.size ≤ w1.heap.size := Q1.out.size
  have hz1 : w.heap.size < w1.heap.size := B1.out.lt
  have k0 : w1.cell? ⟨w.heap.size, 0, none⟩ = some (.int .i64 W) := B1.out.c0
  have k1 : w1.cell? ⟨w.heap.size, 1, none⟩ = some (.int .i64 H) := B1.out.c1
  have k2 : w1.cell? ⟨w.heap.size, 2, none⟩ = some (.int .i64 T) := B1.out.c2
  clear hb1
  go_wp2_with fail
  refine (rhor_l W H T _ _ _ w.heap.size none 0 0 [] HO.out (by omega) (by omega) (on0 _).out (by omega) hs1).mono ?_
  rintro e w2 ⟨A2, c2, rfl, ho2, hb2, -⟩
  have O2 := Lib.hid ho2
  have Q2 := Lib.hid (Q1.out.trans hb2)
  clear ho2 hb2 k0 k1 k2
  go_wp2_with fail
  rw [← HR.out]
  exact row_mk (by simp [trk_length]) (by simpa using O2.out) Q2.out

set_option maxRecDepth 100000 in
set_option maxHeartbeats 2000000 in
theorem sw_in1 (W H T n x y t : Int) (w : World) (h : okA W H T) (hK : whK W H T n = 2) (hX : whX W H T n = x) (hY : whY W H T n = y) (hT : whT W H T n = t) (hx : 0 ≤ x ∧ x ≤ 64) (hy : 0 ≤ y ∧ y ≤ 64) (h0 : t = 1) :
    SW W H T n w (RowOut (trk W H T 4 (x + 1) y T.toNat) w) := by
  have hh := h
  unfold okA at hh
  obtain ⟨R, hR⟩ : ∃ R, RowOut (trk W H T 4 (x + 1) y T.toNat) w = R := ⟨_, rfl⟩
  unfold SW
  rw [hR]
  have HR := Lib.hid hR
  have HO := Lib.hid h
  have HK := Lib.hid hK
  have HX := Lib.hid hX
  have HY := Lib.hid hY
  have HT := Lib.hid hT
  have Q0 := Lib.hid (below_new w (.cells #[.int .i64 W, .int .i64 H, .int .i64 T] 23))
  have B0 := Lib.hid (Box3.new w (.int .i64 W) (.int .i64 H) (.int .i64 T) 23)
  have K0 := Lib.hid (Blk.made w 23 #[.int .i64 W, .int .i64 H, .int .i64 T])
  have on0 := fun (w' : World) => Lib.hid (show w'.ownsRow w.heap.size 3 1 (.slice none 0 0) 0 (ints []) from World.ownsRow_nil _ _ _ _)
  clear hR h hK hX hY hT
  go_enter Tryz.func107, Tryz.ntmps107
  go_wp2_with fail
  refine (rwhat_any _ _ _ _ _).mono ?_
  rintro e w1 ⟨rfl, hb1⟩
  rw [HK.out, HX.out, HY.out, HT.out]
  have Q1 := Lib.hid (below_then Q0.out hb1)
  have B1 := Lib.hid (Box3.below B0.out hb1)
  have K1 := Lib.hid (K0.out.keep hb1)
  have hs1 : w.heap.size ≤ w1.heap.size := Q1.out.size
  have hz1 : w.heap.size < w1.heap.size := B1.out.lt
  have k0 : w1.cell? ⟨w.heap.size, 0, none⟩ = some (.int .i64 W) := B1.out.c0
  have k1 : w1.cell? ⟨w.heap.size, 1, none⟩ = some (.int .i64 H) := B1.out.c1
  have k2 : w1.cell? ⟨w.heap.size, 2, none⟩ = some (.int .i64 T) := B1.out.c2
  clear hb1
  go_wp2_with fail
  refine (rver_l W H T _ _ _ w.heap.size none 0 0 [] HO.out (by omega) (by omega) (on0 _).out (by omega) hs1).mono ?_
  rintro e w2 ⟨A2, c2, rfl, ho2, hb2, -⟩
  have O2 := Lib.hid ho2
  have Q2 := Lib.hid (Q1.out.trans hb2)
  clear ho2 hb2 k0 k1 k2
  go_wp2_with fail
  rw [← HR.out]
  exact row_mk (by simp [trk_length]) (by simpa using O2.out) Q2.out

set_option maxRecDepth 100000 in
set_option maxHeartbeats 2000000 in
theorem sw_in2 (W H T n x y t : Int) (w : World) (h : okA W H T) (hK : whK W H T n = 2) (hX : whX W H T n = x) (hY : whY W H T n = y) (hT : whT W H T n = t) (hx : 0 ≤ x ∧ x ≤ 64) (hy : 0 ≤ y ∧ y ≤ 64) (h0 : t = 2) :
    SW W H T n w (RowOut (trk W H T 3 x (y + 1) T.toNat) w) := by
  have hh := h
  unfold okA at hh
  obtain ⟨R, hR⟩ : ∃ R, RowOut (trk W H T 3 x (y + 1) T.toNat) w = R := ⟨_, rfl⟩
  unfold SW
  rw [hR]
  have HR := Lib.hid hR
  have HO := Lib.hid h
  have HK := Lib.hid hK
  have HX := Lib.hid hX
  have HY := Lib.hid hY
  have HT := Lib.hid hT
  have Q0 := Lib.hid (below_new w (.cells #[.int .i64 W, .int .i64 H, .int .i64 T] 23))
  have B0 := Lib.hid (Box3.new w (.int .i64 W) (.int .i64 H) (.int .i64 T) 23)
  have K0 := Lib.hid (Blk.made w 23 #[.int .i64 W, .int .i64 H, .int .i64 T])
  have on0 := fun (w' : World) => Lib.hid (show w'.ownsRow w.heap.size 3 1 (.slice none 0 0) 0 (ints []) from World.ownsRow_nil _ _ _ _)
  clear hR h hK hX hY hT
  go_enter Tryz.func107, Tryz.ntmps107
  go_wp2_with fail
  refine (rwhat_any _ _ _ _ _).mono ?_
  rintro e w1 ⟨rfl, hb1⟩
  rw [HK.out, HX.out, HY.out, HT.out]
  have Q1 := Lib.hid (below_then Q0.out hb1)
  have B1 := Lib.hid (Box3.below B0.out hb1)
  have K1 := Lib.hid (K0.out.keep hb1)
  have hs1 : w.heap.size ≤ w1.heap.size := Q1.out.size
  have hz1 : w.heap.size < w1.heap.size := B1.out.lt
  have k0 : w1.cell? ⟨w.heap.size, 0, none⟩ = some (.int .i64 W) := B1.out.c0
  have k1 : w1.cell? ⟨w.heap.size, 1, none⟩ = some (.int .i64 H) := B1.out.c1
  have k2 : w1.cell? ⟨w.heap.size, 2, none⟩ = some (.int .i64 T) := B1.out.c2
  clear hb1
  go_wp2_with fail
  refine (rhor_l W H T _ _ _ w.heap.size none 0 0 [] HO.out (by omega) (by omega) (on0 _).out (by omega) hs1).mono ?_
  rintro e w2 ⟨A2, c2, rfl, ho2, hb2, -⟩
  have O2 := Lib.hid ho2
  have Q2 := Lib.hid (Q1.out.trans hb2)
  clear ho2 hb2 k0 k1 k2
  go_wp2_with fail
  rw [← HR.out]
  exact row_mk (by simp [trk_length]) (by simpa using O2.out) Q2.out

set_option maxRecDepth 100000 in
set_option maxHeartbeats 2000000 in
theorem sw_in3 (W H T n x y t : Int) (w : World) (h : okA W H T) (hK : whK W H T n = 2) (hX : whX W H T n = x) (hY : whY W H T n = y) (hT : whT W H T n = t) (hx : 0 ≤ x ∧ x ≤ 64) (hy : 0 ≤ y ∧ y ≤ 64) (h0 : t = 3) :
    SW W H T n w (RowOut (trk W H T 4 x y T.toNat) w) := by
  have hh := h
  unfold okA at hh
  obtain ⟨R, hR⟩ : ∃ R, RowOut (trk W H T 4 x y T.toNat) w = R := ⟨_, rfl⟩
  unfold SW
  rw [hR]
  have HR := Lib.hid hR
  have HO := Lib.hid h
  have HK := Lib.hid hK
  have HX := Lib.hid hX
  have HY := Lib.hid hY
  have HT := Lib.hid hT
  have Q0 := Lib.hid (below_new w (.cells #[.int .i64 W, .int .i64 H, .int .i64 T] 23))
  have B0 := Lib.hid (Box3.new w (.int .i64 W) (.int .i64 H) (.int .i64 T) 23)
  have K0 := Lib.hid (Blk.made w 23 #[.int .i64 W, .int .i64 H, .int .i64 T])
  have on0 := fun (w' : World) => Lib.hid (show w'.ownsRow w.heap.size 3 1 (.slice none 0 0) 0 (ints []) from World.ownsRow_nil _ _ _ _)
  clear hR h hK hX hY hT
  go_enter Tryz.func107, Tryz.ntmps107
  go_wp2_with fail
  refine (rwhat_any _ _ _ _ _).mono ?_
  rintro e w1 ⟨rfl, hb1⟩
  rw [HK.out, HX.out, HY.out, HT.out]
  have Q1 := Lib.hid (below_then Q0.out hb1)
  have B1 := Lib.hid (Box3.below B0.out hb1)
  have K1 := Lib.hid (K0.out.keep hb1)
  have hs1 : w.heap.size ≤ w1.heap.size := Q1.out.size
  have hz1 : w.heap.size < w1.heap.size := B1.out.lt
  have k0 : w1.cell? ⟨w.heap.size, 0, none⟩ = some (.int .i64 W) := B1.out.c0
  have k1 : w1.cell? ⟨w.heap.size, 1, none⟩ = some (.int .i64 H) := B1.out.c1
  have k2 : w1.cell? ⟨w.heap.size, 2, none⟩ = some (.int .i64 T) := B1.out.c2
  clear hb1
  go_wp2_with fail
  refine (rver_l W H T _ _ _ w.heap.size none 0 0 [] HO.out (by omega) (by omega) (on0 _).out (by omega) hs1).mono ?_
  rintro e w2 ⟨A2, c2, rfl, ho2, hb2, -⟩
  have O2 := Lib.hid ho2
  have Q2 := Lib.hid (Q1.out.trans hb2)
  clear ho2 hb2 k0 k1 k2
  go_wp2_with fail
  rw [← HR.out]
  exact row_mk (by simp [trk_length]) (by simpa using O2.out) Q2.out

set_option maxRecDepth 100000 in
set_option maxHeartbeats 2000000 in
theorem sw_pad0 (W H T n x y t : Int) (w : World) (h : okA W H T) (hK : whK W H T n = 3) (hX : whX W H T n = x) (hY : whY W H T n = y) (hT : whT W H T n = t) (hx : 0 ≤ x ∧ x ≤ 64) (hy : 0 ≤ y ∧ y ≤ 64) (h0 : x < W) :
    SW W H T n w (RowOut (trk W H T 3 x 0 T.toNat) w) := by
  have hh := h
  unfold okA at hh
  obtain ⟨R, hR⟩ : ∃ R, RowOut (trk W H T 3 x 0 T.toNat) w = R := ⟨_, rfl⟩
  unfold SW
  rw [hR]
  have HR := Lib.hid hR
  have HO := Lib.hid h
  have HK := Lib.hid hK
  have HX := Lib.hid hX
  have HY := Lib.hid hY
  have HT := Lib.hid hT
  have Q0 := Lib.hid (below_new w (.cells #[.int .i64 W, .int .i64 H, .int .i64 T] 23))
  have B0 := Lib.hid (Box3.new w (.int .i64 W) (.int .i64 H) (.int .i64 T) 23)
  have K0 := Lib.hid (Blk.made w 23 #[.int .i64 W, .int .i64 H, .int .i64 T])
  have on0 := fun (w' : World) => Lib.hid (show w'.ownsRow w.heap.size 3 1 (.slice none 0 0) 0 (ints []) from World.ownsRow_nil _ _ _ _)
  clear hR h hK hX hY hT
  go_enter Tryz.func107, Tryz.ntmps107
  go_wp2_with fail
  refine (rwhat_any _ _ _ _ _).mono ?_
  rintro e w1 ⟨rfl, hb1⟩
  rw [HK.out, HX.out, HY.out, HT.out]
  have Q1 := Lib.hid (below_then Q0.out hb1)
  have B1 := Lib.hid (Box3.below B0.out hb1)
  have K1 := Lib.hid (K0.out.keep hb1)
  have hs1 : w.heap.size ≤ w1.heap.size := Q1.out.size
  have hz1 : w.heap.size < w1.heap.size := B1.out.lt
  have k0 : w1.cell? ⟨w.heap.size, 0, none⟩ = some (.int .i64 W) := B1.out.c0
  have k1 : w1.cell? ⟨w.heap.size, 1, none⟩ = some (.int .i64 H) := B1.out.c1
  have k2 : w1.cell? ⟨w.heap.size, 2, none⟩ = some (.int .i64 T) := B1.out.c2
  clear hb1
  go_wp2_with fail
  refine (rhor_l W H T _ _ _ w.heap.size none 0 0 [] HO.out (by omega) (by omega) (on0 _).out (by omega) hs1).mono ?_
  rintro e w2 ⟨A2, c2, rfl, ho2, hb2, -⟩
  have O2 := Lib.hid ho2
  have Q2 := Lib.hid (Q1.out.trans hb2)
  clear ho2 hb2 k0 k1 k2
  go_wp2_with fail
  rw [← HR.out]
  exact row_mk (by simp [trk_length]) (by simpa using O2.out) Q2.out

set_option maxRecDepth 100000 in
set_option maxHeartbeats 2000000 in
theorem sw_pad1 (W H T n x y t : Int) (w : World) (h : okA W H T) (hK : whK W H T n = 3) (hX : whX W H T n = x) (hY : whY W H T n = y) (hT : whT W H T n = t) (hx : 0 ≤ x ∧ x ≤ 64) (hy : 0 ≤ y ∧ y ≤ 64) (h0 : W ≤ x) (h1 : x < 2 * W) :
    SW W H T n w (RowOut (trk W H T 3 (x - W) H T.toNat) w) := by
  have hh := h
  unfold okA at hh
  obtain ⟨R, hR⟩ : ∃ R, RowOut (trk W H T 3 (x - W) H T.toNat) w = R := ⟨_, rfl⟩
  unfold SW
  rw [hR]
  have HR := Lib.hid hR
  have HO := Lib.hid h
  have HK := Lib.hid hK
  have HX := Lib.hid hX
  have HY := Lib.hid hY
  have HT := Lib.hid hT
  have Q0 := Lib.hid (below_new w (.cells #[.int .i64 W, .int .i64 H, .int .i64 T] 23))
  have B0 := Lib.hid (Box3.new w (.int .i64 W) (.int .i64 H) (.int .i64 T) 23)
  have K0 := Lib.hid (Blk.made w 23 #[.int .i64 W, .int .i64 H, .int .i64 T])
  have on0 := fun (w' : World) => Lib.hid (show w'.ownsRow w.heap.size 3 1 (.slice none 0 0) 0 (ints []) from World.ownsRow_nil _ _ _ _)
  clear hR h hK hX hY hT
  go_enter Tryz.func107, Tryz.ntmps107
  go_wp2_with fail
  refine (rwhat_any _ _ _ _ _).mono ?_
  rintro e w1 ⟨rfl, hb1⟩
  rw [HK.out, HX.out, HY.out, HT.out]
  have Q1 := Lib.hid (below_then Q0.out hb1)
  have B1 := Lib.hid (Box3.below B0.out hb1)
  have K1 := Lib.hid (K0.out.keep hb1)
  have hs1 : w.heap.size ≤ w1.heap.size := Q1.out.size
  have hz1 : w.heap.size < w1.heap.size := B1.out.lt
  have k0 : w1.cell? ⟨w.heap.size, 0, none⟩ = some (.int .i64 W) := B1.out.c0
  have k1 : w1.cell? ⟨w.heap.size, 1, none⟩ = some (.int .i64 H) := B1.out.c1
  have k2 : w1.cell? ⟨w.heap.size, 2, none⟩ = some (.int .i64 T) := B1.out.c2
  clear hb1
  go_wp2_with fail
  refine (rhor_l W H T _ _ _ w.heap.size none 0 0 [] HO.out (by omega) (by omega) (on0 _).out (by omega) hs1).mono ?_
  rintro e w2 ⟨A2, c2, rfl, ho2, hb2, -⟩
  have O2 := Lib.hid ho2
  have Q2 := Lib.hid (Q1.out.trans hb2)
  clear ho2 hb2 k0 k1 k2
  go_wp2_with fail
  rw [← HR.out]
  exact row_mk (by simp [trk_length]) (by simpa using O2.out) Q2.out

set_option maxRecDepth 100000 in
set_option maxHeartbeats 2000000 in
theorem sw_pad2 (W H T n x y t : Int) (w : World) (h : okA W H T) (hK : whK W H T n = 3) (hX : whX W H T n = x) (hY : whY W H T n = y) (hT : whT W H T n = t) (hx : 0 ≤ x ∧ x ≤ 64) (hy : 0 ≤ y ∧ y ≤ 64) (h0 : W ≤ x) (h1 : 2 * W ≤ x) (h2 : x < 2 * W + H) :
    SW W H T n w (RowOut (trk W H T 4 0 (x - 2 * W) T.toNat) w) := by
  have hh := h
  unfold okA at hh
  obtain ⟨R, hR⟩ : ∃ R, RowOut (trk W H T 4 0 (x - 2 * W) T.toNat) w = R := ⟨_, rfl⟩
  unfold SW
  rw [hR]
  have HR := Lib.hid hR
  have HO := Lib.hid h
  have HK := Lib.hid hK
  have HX := Lib.hid hX
  have HY := Lib.hid hY
  have HT := Lib.hid hT
  have Q0 := Lib.hid (below_new w (.cells #[.int .i64 W, .int .i64 H, .int .i64 T] 23))
  have B0 := Lib.hid (Box3.new w (.int .i64 W) (.int .i64 H) (.int .i64 T) 23)
  have K0 := Lib.hid (Blk.made w 23 #[.int .i64 W, .int .i64 H, .int .i64 T])
  have on0 := fun (w' : World) => Lib.hid (show w'.ownsRow w.heap.size 3 1 (.slice none 0 0) 0 (ints []) from World.ownsRow_nil _ _ _ _)
  clear hR h hK hX hY hT
  go_enter Tryz.func107, Tryz.ntmps107
  go_wp2_with fail
  refine (rwhat_any _ _ _ _ _).mono ?_
  rintro e w1 ⟨rfl, hb1⟩
  rw [HK.out, HX.out, HY.out, HT.out]
  have Q1 := Lib.hid (below_then Q0.out hb1)
  have B1 := Lib.hid (Box3.below B0.out hb1)
  have K1 := Lib.hid (K0.out.keep hb1)
  have hs1 : w.heap.size ≤ w1.heap.size := Q1.out.size
  have hz1 : w.heap.size < w1.heap.size := B1.out.lt
  have k0 : w1.cell? ⟨w.heap.size, 0, none⟩ = some (.int .i64 W) := B1.out.c0
  have k1 : w1.cell? ⟨w.heap.size, 1, none⟩ = some (.int .i64 H) := B1.out.c1
  have k2 : w1.cell? ⟨w.heap.size, 2, none⟩ = some (.int .i64 T) := B1.out.c2
  clear hb1
  go_wp2_with fail
  refine (rver_l W H T _ _ _ w.heap.size none 0 0 [] HO.out (by omega) (by omega) (on0 _).out (by omega) hs1).mono ?_
  rintro e w2 ⟨A2, c2, rfl, ho2, hb2, -⟩
  have O2 := Lib.hid ho2
  have Q2 := Lib.hid (Q1.out.trans hb2)
  clear ho2 hb2 k0 k1 k2
  go_wp2_with fail
  rw [← HR.out]
  exact row_mk (by simp [trk_length]) (by simpa using O2.out) Q2.out

set_option maxRecDepth 100000 in
set_option maxHeartbeats 2000000 in
theorem sw_pad3 (W H T n x y t : Int) (w : World) (h : okA W H T) (hK : whK W H T n = 3) (hX : whX W H T n = x) (hY : whY W H T n = y) (hT : whT W H T n = t) (hx : 0 ≤ x ∧ x ≤ 64) (hy : 0 ≤ y ∧ y ≤ 64) (h0 : W ≤ x) (h1 : 2 * W ≤ x) (h2 : 2 * W + H ≤ x) :
    SW W H T n w (RowOut (trk W H T 4 W (x - 2 * W - H) T.toNat) w) := by
  have hh := h
  unfold okA at hh
  obtain ⟨R, hR⟩ : ∃ R, RowOut (trk W H T 4 W (x - 2 * W - H) T.toNat) w = R := ⟨_, rfl⟩
  unfold SW
  rw [hR]
  have HR := Lib.hid hR
  have HO := Lib.hid h
  have HK := Lib.hid hK
  have HX := Lib.hid hX
  have HY := Lib.hid hY
  have HT := Lib.hid hT
  have Q0 := Lib.hid (below_new w (.cells #[.int .i64 W, .int .i64 H, .int .i64 T] 23))
  have B0 := Lib.hid (Box3.new w (.int .i64 W) (.int .i64 H) (.int .i64 T) 23)
  have K0 := Lib.hid (Blk.made w 23 #[.int .i64 W, .int .i64 H, .int .i64 T])
  have on0 := fun (w' : World) => Lib.hid (show w'.ownsRow w.heap.size 3 1 (.slice none 0 0) 0 (ints []) from World.ownsRow_nil _ _ _ _)
  clear hR h hK hX hY hT
  go_enter Tryz.func107, Tryz.ntmps107
  go_wp2_with fail
  refine (rwhat_any _ _ _ _ _).mono ?_
  rintro e w1 ⟨rfl, hb1⟩
  rw [HK.out, HX.out, HY.out, HT.out]
  have Q1 := Lib.hid (below_then Q0.out hb1)
  have B1 := Lib.hid (Box3.below B0.out hb1)
  have K1 := Lib.hid (K0.out.keep hb1)
  have hs1 : w.heap.size ≤ w1.heap.size := Q1.out.size
  have hz1 : w.heap.size < w1.heap.size := B1.out.lt
  have k0 : w1.cell? ⟨w.heap.size, 0, none⟩ = some (.int .i64 W) := B1.out.c0
  have k1 : w1.cell? ⟨w.heap.size, 1, none⟩ = some (.int .i64 H) := B1.out.c1
  have k2 : w1.cell? ⟨w.heap.size, 2, none⟩ = some (.int .i64 T) := B1.out.c2
  clear hb1
  go_wp2_with fail
  refine (rver_l W H T _ _ _ w.heap.size none 0 0 [] HO.out (by omega) (by omega) (on0 _).out (by omega) hs1).mono ?_
  rintro e w2 ⟨A2, c2, rfl, ho2, hb2, -⟩
  have O2 := Lib.hid ho2
  have Q2 := Lib.hid (Q1.out.trans hb2)
  clear ho2 hb2 k0 k1 k2
  go_wp2_with fail
  rw [← HR.out]
  exact row_mk (by simp [trk_length]) (by simpa using O2.out) Q2.out

theorem own_low {w : World} {base base' : Nat} {e : TypeId} {size n : Nat} {v : Value} {xs : List Value} (h : w.ownsRow base e size v n xs) (hb : base' ≤ base) : w.ownsRow base' e size v n xs := by
  refine ⟨h.1, ?_⟩
  rcases h.2 with h2 | ⟨g, cap, cur, hv, hg, hh⟩
  · exact .inl h2
  · exact .inr ⟨g, cap, cur, hv, Nat.le_trans hb hg, hh⟩

set_option maxRecDepth 100000 in
set_option maxHeartbeats 2000000 in
theorem sw_hor (W H T n x y t : Int) (w : World) (h : okA W H T) (hK : whK W H T n = 4) (hX : whX W H T n = x) (hY : whY W H T n = y) (hT : whT W H T n = t) (hx : 0 ≤ x ∧ x ≤ 64) (hy : 0 ≤ y ∧ y ≤ 64) :
    SW W H T n w (RowOut (hereTo W H T x y t 4 ++ hereTo W H T (x + 1) y t 4) w) := by
  have hh := h
  unfold okA at hh
  obtain ⟨R, hR⟩ : ∃ R, RowOut (hereTo W H T x y t 4 ++ hereTo W H T (x + 1) y t 4) w = R := ⟨_, rfl⟩
  unfold SW
  rw [hR]
  have HR := Lib.hid hR
  have HO := Lib.hid h
  have HK := Lib.hid hK
  have HX := Lib.hid hX
  have HY := Lib.hid hY
  have HT := Lib.hid hT
  have Q0 := Lib.hid (below_new w (.cells #[.int .i64 W, .int .i64 H, .int .i64 T] 23))
  have B0 := Lib.hid (Box3.new w (.int .i64 W) (.int .i64 H) (.int .i64 T) 23)
  have K0 := Lib.hid (Blk.made w 23 #[.int .i64 W, .int .i64 H, .int .i64 T])
  have on0 := fun (w' : World) => Lib.hid (show w'.ownsRow w.heap.size 3 1 (.slice none 0 0) 0 (ints []) from World.ownsRow_nil _ _ _ _)
  have hl1 := hereTo_len W H T x y t 4
  have hl2 := hereTo_len W H T (x + 1) y t 4
  clear hR h hK hX hY hT
  go_enter Tryz.func107, Tryz.ntmps107
  go_wp2_with fail
  refine (rwhat_any _ _ _ _ _).mono ?_
  rintro e w1 ⟨rfl, hb1⟩
  rw [HK.out, HX.out, HY.out, HT.out]
  have Q1 := Lib.hid (below_then Q0.out hb1)
  have B1 := Lib.hid (Box3.below B0.out hb1)
  have K1 := Lib.hid (K0.out.keep hb1)
  have hs1 : w.heap.size ≤ w1.heap.size := Q1.out.size
  have hz1 : w.heap.size < w1.heap.size := B1.out.lt
  have k0 : w1.cell? ⟨w.heap.size, 0, none⟩ = some (.int .i64 W) := B1.out.c0
  have k1 : w1.cell? ⟨w.heap.size, 1, none⟩ = some (.int .i64 H) := B1.out.c1
  have k2 : w1.cell? ⟨w.heap.size, 2, none⟩ = some (.int .i64 T) := B1.out.c2
  clear hb1
  go_wp2_with fail
  refine (corner_any W H T _ _ _ _ (by omega) (by omega)).mono ?_
  rintro e w2 ⟨A2, c2, rfl, ho2, hb2⟩
  have O2 := Lib.hid ho2
  have Q2 := Lib.hid (Q1.out.trans (hb2.mono hs1))
  have B2 := Lib.hid (Box3.below B1.out hb2)
  have hs2 : w1.heap.size ≤ w2.heap.size := hb2.size
  clear ho2 hb2 k0 k1 k2
  obtain ⟨L1, hL1⟩ : ∃ L1, hereTo W H T x y t 4 = L1 := ⟨_, rfl⟩
  have HL1 := Lib.hid hL1
  rw [hL1] at O2 hl1 ⊢
  clear hL1
  have k0 : w2.cell? ⟨w.heap.size, 0, none⟩ = some (.int .i64 W) := B2.out.c0
  have k1 : w2.cell? ⟨w.heap.size, 1, none⟩ = some (.int .i64 H) := B2.out.c1
  have k2 : w2.cell? ⟨w.heap.size, 2, none⟩ = some (.int .i64 T) := B2.out.c2
  go_wp2_with (at_builtin; refine wpList_app_ints rfl (.tmp 146) (.tmp 151) rfl w2.heap.size none 0 0 [] rfl (World.ownsRow_nil _ _ _ _) A2 L1.length c2 L1 rfl (Rd.of_own O2.out) (by omega) (Nat.le_refl _) ?_)
  intro A3 c3 w3 hown3 hg3
  try simp only [Nat.zero_add, List.nil_append] at hown3
  have b3 : Below w2.heap.size w2 w3 := (Below.refl _ _).grown hg3 (Nat.le_refl _) (by simp [Value.ownBlock])
  have O3 := Lib.hid hown3
  have Q3 := Lib.hid (below_then Q2.out b3)
  have B3 := Lib.hid (Box3.below B2.out b3)
  have hs3 : w2.heap.size ≤ w3.heap.size := b3.size
  clear hown3 hg3 b3 k0 k1 k2
  have k0 : w3.cell? ⟨w.heap.size, 0, none⟩ = some (.int .i64 W) := B3.out.c0
  have k1 : w3.cell? ⟨w.heap.size, 1, none⟩ = some (.int .i64 H) := B3.out.c1
  have k2 : w3.cell? ⟨w.heap.size, 2, none⟩ = some (.int .i64 T) := B3.out.c2
  go_wp2_with fail
  refine (corner_any W H T _ _ _ _ (by omega) (by omega)).mono ?_
  rintro e w4 ⟨A4, c4, rfl, ho4, hb4⟩
  have O4 := Lib.hid ho4
  have O34 := Lib.hid (own_keep O3.out hb4)
  have Q4 := Lib.hid (below_then Q3.out hb4)
  have hs4 : w3.heap.size ≤ w4.heap.size := hb4.size
  clear ho4 hb4 k0 k1 k2
  obtain ⟨L2, hL2⟩ : ∃ L2, hereTo W H T (x + 1) y t 4 = L2 := ⟨_, rfl⟩
  have HL2 := Lib.hid hL2
  rw [hL2] at O4 hl2 ⊢
  clear hL2
  go_wp2_with (at_builtin; refine wpList_app_ints rfl (.tmp 153) (.tmp 159) rfl w2.heap.size A3 L1.length c3 L1 rfl O34.out A4 L2.length c4 L2 rfl (Rd.of_own O4.out) (by omega) (by omega) ?_)
  intro A5 c5 w5 hown5 hg5
  have O5 := Lib.hid hown5
  have Q5 := Lib.hid (Q4.out.grown hg5 (by omega) (fun j hj => by have := own_base O34.out hj; omega))
  clear hown5 hg5
  go_wp2_with fail
  rw [← HR.out, HL1.out, HL2.out]
  exact row_mk (by simp) (own_low (by have := O5.out; simpa using this) (by omega)) Q5.out

set_option maxRecDepth 100000 in
set_option maxHeartbeats 2000000 in
theorem sw_ver (W H T n x y t : Int) (w : World) (h : okA W H T) (hK : whK W H T n = 5) (hX : whX W H T n = x) (hY : whY W H T n = y) (hT : whT W H T n = t) (hx : 0 ≤ x ∧ x ≤ 64) (hy : 0 ≤ y ∧ y ≤ 64) :
    SW W H T n w (RowOut (hereTo W H T x y t 4 ++ hereTo W H T x (y + 1) t 4) w) := by
  have hh := h
  unfold okA at hh
  obtain ⟨R, hR⟩ : ∃ R, RowOut (hereTo W H T x y t 4 ++ hereTo W H T x (y + 1) t 4) w = R := ⟨_, rfl⟩
  unfold SW
  rw [hR]
  have HR := Lib.hid hR
  have HO := Lib.hid h
  have HK := Lib.hid hK
  have HX := Lib.hid hX
  have HY := Lib.hid hY
  have HT := Lib.hid hT
  have Q0 := Lib.hid (below_new w (.cells #[.int .i64 W, .int .i64 H, .int .i64 T] 23))
  have B0 := Lib.hid (Box3.new w (.int .i64 W) (.int .i64 H) (.int .i64 T) 23)
  have K0 := Lib.hid (Blk.made w 23 #[.int .i64 W, .int .i64 H, .int .i64 T])
  have on0 := fun (w' : World) => Lib.hid (show w'.ownsRow w.heap.size 3 1 (.slice none 0 0) 0 (ints []) from World.ownsRow_nil _ _ _ _)
  have hl1 := hereTo_len W H T x y t 4
  have hl2 := hereTo_len W H T x (y + 1) t 4
  clear hR h hK hX hY hT
  go_enter Tryz.func107, Tryz.ntmps107
  go_wp2_with fail
  refine (rwhat_any _ _ _ _ _).mono ?_
  rintro e w1 ⟨rfl, hb1⟩
  rw [HK.out, HX.out, HY.out, HT.out]
  have Q1 := Lib.hid (below_then Q0.out hb1)
  have B1 := Lib.hid (Box3.below B0.out hb1)
  have K1 := Lib.hid (K0.out.keep hb1)
  have hs1 : w.heap.size ≤ w1.heap.size := Q1.out.size
  have hz1 : w.heap.size < w1.heap.size := B1.out.lt
  have k0 : w1.cell? ⟨w.heap.size, 0, none⟩ = some (.int .i64 W) := B1.out.c0
  have k1 : w1.cell? ⟨w.heap.size, 1, none⟩ = some (.int .i64 H) := B1.out.c1
  have k2 : w1.cell? ⟨w.heap.size, 2, none⟩ = some (.int .i64 T) := B1.out.c2
  clear hb1
  go_wp2_with fail
  refine (corner_any W H T _ _ _ _ (by omega) (by omega)).mono ?_
  rintro e w2 ⟨A2, c2, rfl, ho2, hb2⟩
  have O2 := Lib.hid ho2
  have Q2 := Lib.hid (Q1.out.trans (hb2.mono hs1))
  have B2 := Lib.hid (Box3.below B1.out hb2)
  have hs2 : w1.heap.size ≤ w2.heap.size := hb2.size
  clear ho2 hb2 k0 k1 k2
  obtain ⟨L1, hL1⟩ : ∃ L1, hereTo W H T x y t 4 = L1 := ⟨_, rfl⟩
  have HL1 := Lib.hid hL1
  rw [hL1] at O2 hl1 ⊢
  clear hL1
  have k0 : w2.cell? ⟨w.heap.size, 0, none⟩ = some (.int .i64 W) := B2.out.c0
  have k1 : w2.cell? ⟨w.heap.size, 1, none⟩ = some (.int .i64 H) := B2.out.c1
  have k2 : w2.cell? ⟨w.heap.size, 2, none⟩ = some (.int .i64 T) := B2.out.c2
  go_wp2_with (at_builtin; refine wpList_app_ints rfl (.tmp 21) (.tmp 26) rfl w2.heap.size none 0 0 [] rfl (World.ownsRow_nil _ _ _ _) A2 L1.length c2 L1 rfl (Rd.of_own O2.out) (by omega) (Nat.le_refl _) ?_)
  intro A3 c3 w3 hown3 hg3
  try simp only [Nat.zero_add, List.nil_append] at hown3
  have b3 : Below w2.heap.size w2 w3 := (Below.refl _ _).grown hg3 (Nat.le_refl _) (by simp [Value.ownBlock])
  have O3 := Lib.hid hown3
  have Q3 := Lib.hid (below_then Q2.out b3)
  have B3 := Lib.hid (Box3.below B2.out b3)
  have hs3 : w2.heap.size ≤ w3.heap.size := b3.size
  clear hown3 hg3 b3 k0 k1 k2
  have k0 : w3.cell? ⟨w.heap.size, 0, none⟩ = some (.int .i64 W) := B3.out.c0
  have k1 : w3.cell? ⟨w.heap.size, 1, none⟩ = some (.int .i64 H) := B3.out.c1
  have k2 : w3.cell? ⟨w.heap.size, 2, none⟩ = some (.int .i64 T) := B3.out.c2
  go_wp2_with fail
  refine (corner_any W H T _ _ _ _ (by omega) (by omega)).mono ?_
  rintro e w4 ⟨A4, c4, rfl, ho4, hb4⟩
  have O4 := Lib.hid ho4
  have O34 := Lib.hid (own_keep O3.out hb4)
  have Q4 := Lib.hid (below_then Q3.out hb4)
  have hs4 : w3.heap.size ≤ w4.heap.size := hb4.size
  clear ho4 hb4 k0 k1 k2
  obtain ⟨L2, hL2⟩ : ∃ L2, hereTo W H T x (y + 1) t 4 = L2 := ⟨_, rfl⟩
  have HL2 := Lib.hid hL2
  rw [hL2] at O4 hl2 ⊢
  clear hL2
  go_wp2_with (at_builtin; refine wpList_app_ints rfl (.tmp 28) (.tmp 34) rfl w2.heap.size A3 L1.length c3 L1 rfl O34.out A4 L2.length c4 L2 rfl (Rd.of_own O4.out) (by omega) (by omega) ?_)
  intro A5 c5 w5 hown5 hg5
  have O5 := Lib.hid hown5
  have Q5 := Lib.hid (Q4.out.grown hg5 (by omega) (fun j hj => by have := own_base O34.out hj; omega))
  clear hown5 hg5
  go_wp2_with fail
  rw [← HR.out, HL1.out, HL2.out]
  exact row_mk (by simp) (own_low (by have := O5.out; simpa using this) (by omega)) Q5.out

set_option maxRecDepth 100000 in
set_option maxHeartbeats 2000000 in
theorem sw_out (W H T n x y t : Int) (w : World) (h : okA W H T) (hK : whK W H T n = 1) (hX : whX W H T n = x) (hY : whY W H T n = y) (hT : whT W H T n = t) (hx : 0 ≤ x ∧ x ≤ 64) (hy : 0 ≤ y ∧ y ≤ 64) :
    SW W H T n w (RowOut (trk W H T 3 x y T.toNat ++ trk W H T 3 x (y + 1) T.toNat ++ trk W H T 4 x y T.toNat ++ trk W H T 4 (x + 1) y T.toNat) w) := by
  have hh := h
  unfold okA at hh
  obtain ⟨R, hR⟩ : ∃ R, RowOut (trk W H T 3 x y T.toNat ++ trk W H T 3 x (y + 1) T.toNat ++ trk W H T 4 x y T.toNat ++ trk W H T 4 (x + 1) y T.toNat) w = R := ⟨_, rfl⟩
  unfold SW
  rw [hR]
  have HR := Lib.hid hR
  have HO := Lib.hid h
  have HK := Lib.hid hK
  have HX := Lib.hid hX
  have HY := Lib.hid hY
  have HT := Lib.hid hT
  have Q0 := Lib.hid (below_new w (.cells #[.int .i64 W, .int .i64 H, .int .i64 T] 23))
  have B0 := Lib.hid (Box3.new w (.int .i64 W) (.int .i64 H) (.int .i64 T) 23)
  have K0 := Lib.hid (Blk.made w 23 #[.int .i64 W, .int .i64 H, .int .i64 T])
  have on0 := fun (w' : World) => Lib.hid (show w'.ownsRow w.heap.size 3 1 (.slice none 0 0) 0 (ints []) from World.ownsRow_nil _ _ _ _)
  have e1 : IntKind.i64.wrap (x + 1) = x + 1 := IntWalk.i64_in _ (by omega)
  have e2 : IntKind.i64.wrap (y + 1) = y + 1 := IntWalk.i64_in _ (by omega)
  clear hR h hK hX hY hT
  go_enter Tryz.func107, Tryz.ntmps107
  go_wp2_with fail
  refine (rwhat_any _ _ _ _ _).mono ?_
  rintro e w1 ⟨rfl, hb1⟩
  rw [HK.out, HX.out, HY.out, HT.out]
  have Q1 := Lib.hid (below_then Q0.out hb1)
  have B1 := Lib.hid (Box3.below B0.out hb1)
  have K1 := Lib.hid (K0.out.keep hb1)
  have hs1 : w.heap.size ≤ w1.heap.size := Q1.out.size
  have hz1 : w.heap.size < w1.heap.size := B1.out.lt
  have k0 : w1.cell? ⟨w.heap.size, 0, none⟩ = some (.int .i64 W) := B1.out.c0
  have k1 : w1.cell? ⟨w.heap.size, 1, none⟩ = some (.int .i64 H) := B1.out.c1
  have k2 : w1.cell? ⟨w.heap.size, 2, none⟩ = some (.int .i64 T) := B1.out.c2
  clear hb1
  go_wp2_with fail
  go_region_held3 (fun w' => w'.cell? ⟨w.heap.size, 0, none⟩ = some (.int .i64 W) ∧ w'.cell? ⟨w.heap.size, 1, none⟩ = some (.int .i64 H) ∧ w'.cell? ⟨w.heap.size, 2, none⟩ = some (.int .i64 T)) (go_keep) ((first | (go_at_call 122; (with_reducible refine (rhor_l W H T x y _ w.heap.size none (0) 0 (([] : List Int)) HO.out ?_ ?_ ?_ ?_ ?_).mono ?_); (omega); (omega); (exact (on0 _).out); (omega); (exact hs1); rintro e w2 ⟨A2, c2, rfl, ho, hb, hkp⟩; simp only [Nat.zero_add, List.nil_append] at ho; have O2 := Lib.hid ho; have Q2 := Lib.hid (Q1.out.trans (below_drew1 hb)); have K2 := Lib.hid (hkp _ _ _ K1.out (by decide)); have hs2 : w.heap.size ≤ w2.heap.size := Q2.out.size; have q20 : w2.cell? ⟨w.heap.size, 0, none⟩ = some (.int .i64 W) := K2.out.cell 0; have q21 : w2.cell? ⟨w.heap.size, 1, none⟩ = some (.int .i64 H) := K2.out.cell 1; have q22 : w2.cell? ⟨w.heap.size, 2, none⟩ = some (.int .i64 T) := K2.out.cell 2; clear ho hb hkp) | (go_at_call 122; (with_reducible refine (rhor_l W H T x (y + 1) _ w.heap.size A2 (T.toNat) c2 (trk W H T 3 x y T.toNat) HO.out ?_ ?_ ?_ ?_ ?_).mono ?_); (omega); (omega); (exact O2.out); (omega); (exact hs2); rintro e w3 ⟨A3, c3, rfl, ho, hb, hkp⟩; have O3 := Lib.hid ho; have Q3 := Lib.hid (Q2.out.trans (hb)); have K3 := Lib.hid (hkp _ _ _ K2.out (by decide)); have hs3 : w.heap.size ≤ w3.heap.size := Q3.out.size; have q30 : w3.cell? ⟨w.heap.size, 0, none⟩ = some (.int .i64 W) := K3.out.cell 0; have q31 : w3.cell? ⟨w.heap.size, 1, none⟩ = some (.int .i64 H) := K3.out.cell 1; have q32 : w3.cell? ⟨w.heap.size, 2, none⟩ = some (.int .i64 T) := K3.out.cell 2; clear ho hb hkp) | (go_at_call 121; (with_reducible refine (rver_l W H T x y _ w.heap.size A3 (T.toNat + T.toNat) c3 (trk W H T 3 x y T.toNat ++ trk W H T 3 x (y + 1) T.toNat) HO.out ?_ ?_ ?_ ?_ ?_).mono ?_); (omega); (omega); (exact O3.out); (omega); (exact hs3); rintro e w4 ⟨A4, c4, rfl, ho, hb, hkp⟩; have O4 := Lib.hid ho; have Q4 := Lib.hid (Q3.out.trans (hb)); have K4 := Lib.hid (hkp _ _ _ K3.out (by decide)); have hs4 : w.heap.size ≤ w4.heap.size := Q4.out.size; have q40 : w4.cell? ⟨w.heap.size, 0, none⟩ = some (.int .i64 W) := K4.out.cell 0; have q41 : w4.cell? ⟨w.heap.size, 1, none⟩ = some (.int .i64 H) := K4.out.cell 1; have q42 : w4.cell? ⟨w.heap.size, 2, none⟩ = some (.int .i64 T) := K4.out.cell 2; clear ho hb hkp) | (go_at_call 121; (with_reducible refine (rver_l W H T (x + 1) y _ w.heap.size A4 (T.toNat + T.toNat + T.toNat) c4 (trk W H T 3 x y T.toNat ++ trk W H T 3 x (y + 1) T.toNat ++ trk W H T 4 x y T.toNat) HO.out ?_ ?_ ?_ ?_ ?_).mono ?_); (omega); (omega); (exact O4.out); (omega); (exact hs4); rintro e w5 ⟨A5, c5, rfl, ho, hb, hkp⟩; have O5 := Lib.hid ho; have Q5 := Lib.hid (Q4.out.trans (hb)); have K5 := Lib.hid (hkp _ _ _ K4.out (by decide)); have hs5 : w.heap.size ≤ w5.heap.size := Q5.out.size; have q50 : w5.cell? ⟨w.heap.size, 0, none⟩ = some (.int .i64 W) := K5.out.cell 0; have q51 : w5.cell? ⟨w.heap.size, 1, none⟩ = some (.int .i64 H) := K5.out.cell 1; have q52 : w5.cell? ⟨w.heap.size, 2, none⟩ = some (.int .i64 T) := K5.out.cell 2; clear ho hb hkp)))
  go_wp2_with fail
  rw [← HR.out]
  exact row_mk (by simp only [List.length_append, trk_length]) O5.out Q5.out
end Go.Proofs.YtoloaecbfglaeaaGreat

namespace Go.Proofs.YtoloaecbfglaeaaGreat
open Go.RowKit
set_option linter.unusedVariables false
set_option linter.unusedSimpArgs false

/-- THE CONTRACT: a node's switches -/
theorem rsw_any (W H T n : Int) (w : World) (hN : isN W H T n) : SW W H T n w (RowOut (swL W H T n) w) := by
  have h := hN.1
  have hh := h
  unfold okA at hh
  obtain ⟨v1, v2, v3, v4, -⟩ := wh_yes hN
  obtain ⟨bx, by_, bt, -⟩ := wh_bd hN
  obtain ⟨hk, hin, -⟩ := what_nodeAt hN
  obtain ⟨⟨b1, b2⟩, ⟨b3, b4⟩, b5, b6⟩ := hin
  rw [v2] at bx
  rw [v3] at by_
  unfold swL
  rcases lt5 hk with e | e | e | e | e <;> rw [e] at b2 b4 b6 v1 <;> simp only [gw, gh, gd] at b2 b4 b6
  · rw [if_pos e]
    exact sw_out W H T n _ _ _ w h v1 v2 v3 v4 bx by_
  · rw [if_neg (by omega), if_pos e]
    rcases (show wt W H T n = 0 ∨ wt W H T n = 1 ∨ wt W H T n = 2 ∨ wt W H T n = 3 by omega) with t | t | t | t
    · rw [t]; exact sw_in0 W H T n _ _ _ w h v1 v2 v3 (v4.trans t) bx by_ rfl
    · rw [t]; exact sw_in1 W H T n _ _ _ w h v1 v2 v3 (v4.trans t) bx by_ rfl
    · rw [t]; exact sw_in2 W H T n _ _ _ w h v1 v2 v3 (v4.trans t) bx by_ rfl
    · rw [t]; exact sw_in3 W H T n _ _ _ w h v1 v2 v3 (v4.trans t) bx by_ rfl
  · rw [if_neg (by omega), if_neg (by omega), if_pos e]
    unfold brC brX brY
    by_cases c1 : wx W H T n < W
    · rw [if_pos (by omega), if_pos c1, if_pos c1]
      exact sw_pad0 W H T n _ _ _ w h v1 v2 v3 v4 bx by_ c1
    · by_cases c2 : wx W H T n < 2 * W
      · rw [if_pos c2, if_neg c1, if_pos c2, if_neg c1, if_pos c2]
        exact sw_pad1 W H T n _ _ _ w h v1 v2 v3 v4 bx by_ (by omega) c2
      · by_cases c3 : wx W H T n < 2 * W + H
        · rw [if_neg c2, if_neg c1, if_neg c2, if_pos c3, if_neg c1, if_neg c2, if_pos c3]
          exact sw_pad2 W H T n _ _ _ w h v1 v2 v3 v4 bx by_ (by omega) (by omega) c3
        · rw [if_neg c2, if_neg c1, if_neg c2, if_neg c3, if_neg c1, if_neg c2, if_neg c3]
          exact sw_pad3 W H T n _ _ _ w h v1 v2 v3 v4 bx by_ (by omega) (by omega) (by omega)
  · rw [if_neg (by omega), if_neg (by omega), if_neg (by omega), if_pos e]
    exact sw_hor W H T n _ _ _ w h v1 v2 v3 v4 bx by_
  · rw [if_neg (by omega), if_neg (by omega), if_neg (by omega), if_neg (by omega)]
    exact sw_ver W H T n _ _ _ w h v1 v2 v3 v4 bx by_

/-- the part of a slice from k on -/
theorem add_add (a : Addr) (i j : Nat) : (a.add i).add j = a.add (i + j) := by
  unfold Addr.add
  by_cases hi : i = 0 <;> by_cases hj : j = 0 <;> simp [hi, hj, Nat.add_assoc]
theorem Rd.take {w : World} {A : Option Addr} {n c : Nat} {xs : List Value} (h : Rd w 1 A n c xs) {j : Nat} (hj : j ≤ n) : Rd w 1 A j c (xs.take j) := by
  refine ⟨by rw [List.length_take, h.len]; omega, by have := h.cap; omega, h.nil, fun q u hq => ?_⟩
  refine h.read q u ?_
  rw [List.getElem?_take] at hq
  split at hq
  · exact hq
  · cases hq
theorem Rd.drop {w : World} {A : Option Addr} {n c : Nat} {xs : List Value} (h : Rd w 1 A n c xs) {j : Nat} (hj : j ≤ n) : Rd w 1 (if c = j then A else A.map (·.add j)) (n - j) (c - j) (xs.drop j) := by
  refine ⟨by rw [List.length_drop, h.len]; omega, by have := h.cap; omega, fun e => ?_, fun q u hq => ?_⟩
  · split at e
    · have := h.nil e; omega
    · cases A with
      | none => have := h.nil rfl; omega
      | some a => simp at e
  · rw [List.getElem?_drop] at hq
    obtain ⟨a, rfl, hb, hc⟩ := h.read _ u hq
    have hl := (List.getElem?_eq_some_iff.1 hq).1
    have := h.len
    have := h.cap
    rw [if_neg (by omega)]
    exact ⟨a.add j, rfl, by rw [add_block]; exact hb, by rw [add_add]; exact hc⟩

section
variable {ops : Array Oper} {o : Oper} {a : Act} {K : Act → World → Prop} {Q : Exit → Act → World → Prop} {E : Prop}
/-- a whole list of ints behind a row of ints, in a region that draws its order -/
theorem step_app_ints (hgd : o.guard = none) (s x : Operand) (ho : o.op = .call { callee := .builtin .append, args := #[s, x], argTypes := #[26, 26] })
    {W : World} (base : Nat) (A : Option Addr) (k c : Nat) (L : List Int) (hs : a.eval s = .slice A k c) (O : W.ownsRow base 3 1 (.slice A k c) k (ints L)) (A2 : Option Addr) (n d : Nat) (M : List Int) (hx : a.eval x = .slice A2 n d) (hr : Rd W 1 A2 n d (ints M))
    (hk : k + n ≤ 100000000) (hb : base ≤ W.heap.size)
    (h : ∀ A' c' w', w'.ownsRow base 3 1 (.slice A' (k + n) c') (k + n) (ints (L ++ M)) → W.grownBy w' (Value.slice A k c).ownBlock → K (a.put o.dst (.slice A' (k + n) c')) w') :
    if Region.wanted o (yielded ops a.tmps) = true then Oper.wp Tryz.prog o a W K Q else E := by
  have hw : Region.wanted o (yielded ops a.tmps) = true := by simp [Region.wanted, hgd]
  rw [if_pos hw]
  obtain ⟨i0, hi0, hz0, hz1, hz2⟩ := info_parts int_infoA
  cases A2 with
  | none =>
    have hd : d = 0 := hr.nil rfl
    have hn : n = 0 := by have := hr.cap; omega
    subst hd hn
    have hM : M = [] := List.eq_nil_of_length_eq_zero (by have := hr.len; rw [ints_length] at this; omega)
    subst hM
    have hrun := run_append_owned_none (P := Tryz.prog) (w := W) base 26 o.type 3 i0 1 Tryz.underlying26 hi0 (.slice A k c) k (ints L) O
    unfold Oper.wp
    simp [execOp, ho, resolve, invoke, builtin, hs, hx, hrun, Result.andThen]
    exact h A c W (by simpa using O) (World.grownBy.refl W _)
  | some ad =>
    refine wp_append_own W s x 26 ho base 3 i0 (.int .i64 0) 1 8 Tryz.underlying26 hi0 hz0 hz1 hz2 rfl (by decide) (.slice A k c) k (ints L) hs O ad n d (ints M) hx (by have := hr.len; exact this) ?_ ?_ ?_ ?_ ?_ ?_
    · intro j u hj
      obtain ⟨a', e, -, hc⟩ := hr.read j u hj
      obtain rfl := Option.some.inj e
      exact hc
    · intro u hu
      obtain ⟨z, -, rfl⟩ := List.mem_map.1 hu
      rfl
    · unfold maxLen; omega
    · omega
    · exact hb
    · intro v' w' hown hg _
      obtain ⟨A', c', rfl⟩ := own_slice hown
      refine h A' c' w' ?_ hg
      rw [ints_append]
      exact hown
end
end Go.Proofs.YtoloaecbfglaeaaGreat

namespace Go.Proofs.YtoloaecbfglaeaaGreat
open Go.RowKit
set_option linter.unusedVariables false
set_option linter.unusedSimpArgs false

/-- what put leaves -/
def PutOut (A : Option Addr) (l : List Int) (w : World) (e : Ending) (w' : World) : Prop :=
  ∃ A' c', e = .returned (.slice A' l.length c') ∧ Rd w' 1 A' l.length c' (ints l) ∧ (A' = A ∨ ∃ a, A' = some a ∧ w.heap.size ≤ a.block) ∧ Below w.heap.size w w'
theorem ints_take (l : List Int) (j : Nat) : (ints l).take j = ints (l.take j) := by simp [ints, List.map_take]
theorem ints_drop (l : List Int) (j : Nat) : (ints l).drop j = ints (l.drop j) := by simp [ints, List.map_drop]
theorem rd_one (W : World) (n : Int) : Rd (W.alloc (.cells #[.int .i64 n] 3)) 1 (some ⟨W.heap.size, 0, none⟩) 1 1 (ints [n]) :=
  ⟨rfl, Nat.le_refl _, fun h => (by cases h), fun j u hj => by
    rcases j with _ | j
    · simp [ints] at hj; subst hj
      exact ⟨_, rfl, by simp, World.cell?_alloc_at _ _ _ _ rfl⟩
    · simp [ints] at hj⟩
theorem rd_cell {W : World} {g : Nat} {n : Int} (hg : g < W.heap.size) (h : W.cell? ⟨g, 0, none⟩ = some (.int .i64 n)) : Rd W 1 (some ⟨g, 0, none⟩) 1 1 (ints [n]) :=
  ⟨rfl, Nat.le_refl _, fun h => (by cases h), fun j u hj => by
    rcases j with _ | j
    · simp [ints] at hj; subst hj
      exact ⟨_, rfl, hg, h⟩
    · simp [ints] at hj⟩
theorem cell_grown {W w3 : World} {g : Nat} {n : Int} (hg : W.grownBy w3 none) (hl : g < W.heap.size) (h : W.cell? ⟨g, 0, none⟩ = some (.int .i64 n)) : w3.cell? ⟨g, 0, none⟩ = some (.int .i64 n) :=
  (World.cell?_of_block (w := W) (hg.block g hl (by simp))).trans h
theorem put_end {A : Option Addr} {l M : List Int} {n : Int} {w w' : World} {A' : Option Addr} {c' kk : Nat} (hl : putL l n = M) (hk : M.length = kk) (hp : 0 < kk) (ho : w'.ownsRow w.heap.size 3 1 (.slice A' kk c') kk (ints M)) (hb : Below w.heap.size w w') : PutOut A (putL l n) w (.returned (.slice A' kk c')) w' := by
  subst hl hk
  obtain ⟨g, cap, hv, hg, -⟩ := ho.form hp
  refine ⟨A', c', rfl, Rd.of_own ho, .inr ?_, hb⟩
  injection hv with h1
  exact ⟨_, h1, hg⟩

set_option maxRecDepth 100000 in
set_option maxHeartbeats 4000000 in
theorem put_any (w : World) (A : Option Addr) (k c : Nat) (l : List Int) (n : Int) (hr : Rd w 1 A k c (ints l)) (hk : k ≤ 1000000) :
    Calls Tryz.prog 108 #[.slice A k c, .int .i64 n] w (PutOut A (putL l n) w) := by
  have hlk : l.length = k := by have := hr.len; rw [ints_length] at this; omega
  have hc := hr.cap
  obtain ⟨R, hR⟩ : ∃ R, PutOut A (putL l n) w = R := ⟨_, rfl⟩
  rw [hR]
  have HR := Lib.hid hR
  have HI := Lib.hid hr
  have HL := Lib.hid hlk
  clear hR hr hlk
  go_enter Tryz.func108, Tryz.ntmps108
  go_wp2_with fail
  go_loop [5] (fun i => ∃ j : Nat, j ≤ k ∧ i = .int .i64 (j : Int) ∧ Hid (∀ q, q < j → l.getD q 0 < n)) (fun i => k - (intOf i).toNat)
  case atStart => exact ⟨0, by omega, rfl, Lib.hid (fun q hq => by omega)⟩
  case round =>
    obtain ⟨j, hj, rfl, HQ⟩ := hrel
    by_cases hlt : j < k
    · obtain ⟨ad, rfl, hab, hcell⟩ := HI.out.int hlt
      obtain ⟨x, hx⟩ : ∃ x, l.getD j 0 = x := ⟨_, rfl⟩
      have HX := Lib.hid hx
      rw [hx] at hcell
      clear hx
      by_cases hxn : x < n
      · go_wp2_with fail
        go_round
        case rel => exact ⟨j + 1, by omega, by go_num, Lib.hid (fun q hq => by
          by_cases e : q = j
          · subst e; rw [HX.out]; exact hxn
          · exact HQ.out q (by omega))⟩
        case measure => simp [intOf]; omega
      · by_cases he : x = n
        · subst he
          go_wp2_with fail
          rw [← HR.out, putL_there HQ.out (by rw [HL.out]; exact hlt) HX.out]
          exact ⟨some ad, c, by rw [HL.out], by rw [HL.out]; exact HI.out, .inl rfl, Below.refl _ _⟩
        · have hne : (x == n) = false := by simpa using he
          have hjc : j ≤ c := by omega
          have hcj : ¬ c = j := by omega
          have HP : Hid (putL l n = l.take j ++ [n] ++ l.drop j) := Lib.hid (putL_new HQ.out (by rw [HL.out]; omega) (fun _ => by rw [HX.out]; omega))
          have HM : Hid ((l.take j ++ [n] ++ l.drop j).length = j + 1 + (k - j)) := Lib.hid (by simp only [List.length_append, List.length_take, List.length_drop, HL.out, List.length_singleton]; omega)
          have RD43 : Hid (∀ w', Below w.heap.size w w' → Rd w' 1 (some (ad.add j)) ((k - j)) ((c - j)) (ints (l.drop j))) := Lib.hid (fun w' hb => by
            have := (HI.out.drop (j := j) (by omega)).later hb
            rw [ints_drop] at this
            simpa [hcj] using this)
          go_wp2_with fail
          go_region_law ((first
            | (refine step_app_ints rfl (.const (.slice none 0 0)) (.tmp 35) rfl w.heap.size none 0 0 [] rfl (World.ownsRow_nil _ _ _ _) (some ad) j c (l.take j) (by simp [Act.eval, Act.put]) (by have := (HI.out.take (j := j) (by omega)); rw [ints_take] at this; exact this.later (by first | exact (Below.refl _ _).drew | exact ((Below.refl _ _).alloc (Nat.le_refl _) _).drew | exact (Below.refl _ _).drew.alloc (Nat.le_refl _) _)) (by omega) (by first | exact Nat.le_refl _ | simp) ?_; intro A3 c3 w3 hown3 hg3; (try simp only [Nat.zero_add, List.nil_append] at hown3); have B3 : Below w.heap.size w w3 := (by first | exact (Below.refl _ _).drew.grown hg3 (Nat.le_refl _) (by simp [Value.ownBlock]) | exact ((Below.refl _ _).alloc (Nat.le_refl _) _).drew.grown hg3 (by simp) (by simp [Value.ownBlock])); (try have C3 : Hid (w3.cell? ⟨w.heap.size, 0, none⟩ = some (.int .i64 n) ∧ w.heap.size < w3.heap.size) := Lib.hid ⟨cell_grown hg3 (by simp) (World.cell?_alloc_at _ _ _ _ rfl), by have := hg3.size; simp at this; omega⟩); have O3 := Lib.hid hown3; have B3 := Lib.hid B3; clear hown3 hg3)
            | (refine step_app_ints rfl (.tmp 36) (.tmp 38) rfl w.heap.size A3 j c3 (l.take j) (by simp [Act.eval, Act.put]) (O3.out.alloc _) (some ⟨w3.heap.size, 0, none⟩) 1 1 [n] (by simp [Act.eval, Act.put]) (rd_one _ _) (by omega) (by have := B3.out.size; simp; omega) ?_; intro A5 c5 w5 hown5 hg5; have O5 := Lib.hid hown5; have B5 : Hid (Below w.heap.size w w5) := Lib.hid ((B3.out.alloc B3.out.size (.cells #[.int .i64 n] 3)).grown hg5 (by have := B3.out.size; simp; omega) (fun j hj => own_base O3.out hj)); clear hown5 hg5)
            | (refine step_app_ints rfl (.tmp 36) (.tmp 38) rfl w.heap.size A3 j c3 (l.take j) (by simp [Act.eval, Act.put]) O3.out (some ⟨w.heap.size, 0, none⟩) 1 1 [n] (by simp [Act.eval, Act.put]) (rd_cell C3.out.2 C3.out.1) (by omega) B3.out.size ?_; intro A5 c5 w5 hown5 hg5; have O5 := Lib.hid hown5; have B5 : Hid (Below w.heap.size w w5) := Lib.hid (B3.out.grown hg5 B3.out.size (fun j hj => own_base O3.out hj)); clear hown5 hg5)
            | (refine step_app_ints rfl (.tmp 39) (.tmp 42) rfl w.heap.size A5 (j + 1) c5 (l.take j ++ [n]) (by simp [Act.eval, Act.put]) O5.out (some (ad.add j)) (k - j) (c - j) (l.drop j) (by simp [Act.eval, Act.put]) (RD43.out _ B5.out) (by omega) B5.out.size ?_; intro A6 c6 w6 hown6 hg6; have O6 := Lib.hid hown6; have B6 : Hid (Below w.heap.size w w6) := Lib.hid (B5.out.grown hg6 B5.out.size (fun j hj => own_base O5.out hj)); clear hown6 hg6)))
          all_goals
            go_wp2_with fail
            go_ret
            rw [← HR.out]
            exact put_end HP.out (HM.out.trans (by omega)) (by omega) O6.out B6.out
    · obtain rfl : j = k := by omega
      have hjc : j ≤ c := by omega
      have HP : Hid (putL l n = l.take j ++ [n] ++ l.drop j) := Lib.hid (putL_new HQ.out (by rw [HL.out]; omega) (fun h => by rw [HL.out] at h; omega))
      have HM : Hid ((l.take j ++ [n] ++ l.drop j).length = j + 1 + (j - j)) := Lib.hid (by simp only [List.length_append, List.length_take, List.length_drop, HL.out, List.length_singleton]; omega)
      cases A with
      | none =>
        have hc0 : c = 0 := HI.out.nil rfl
        have hj0 : j = 0 := by omega
        subst hc0 hj0
        have RD43 : Hid (∀ w', Below w.heap.size w w' → Rd w' 1 none (0) (0) (ints (l.drop 0))) := Lib.hid (fun w' hb => by
          have := (HI.out.drop (j := 0) (by omega)).later hb
          rw [ints_drop] at this
          simpa using this)
        go_wp2_with fail
        go_region_law ((first
          | (refine step_app_ints rfl (.const (.slice none 0 0)) (.tmp 35) rfl w.heap.size none 0 0 [] rfl (World.ownsRow_nil _ _ _ _) none 0 0 (l.take 0) (by simp [Act.eval, Act.put]) (by have := (HI.out.take (j := 0) (by omega)); rw [ints_take] at this; exact this.later (by first | exact (Below.refl _ _).drew | exact ((Below.refl _ _).alloc (Nat.le_refl _) _).drew | exact (Below.refl _ _).drew.alloc (Nat.le_refl _) _)) (by omega) (by first | exact Nat.le_refl _ | simp) ?_; intro A3 c3 w3 hown3 hg3; (try simp only [Nat.zero_add, List.nil_append] at hown3); have B3 : Below w.heap.size w w3 := (by first | exact (Below.refl _ _).drew.grown hg3 (Nat.le_refl _) (by simp [Value.ownBlock]) | exact ((Below.refl _ _).alloc (Nat.le_refl _) _).drew.grown hg3 (by simp) (by simp [Value.ownBlock])); (try have C3 : Hid (w3.cell? ⟨w.heap.size, 0, none⟩ = some (.int .i64 n) ∧ w.heap.size < w3.heap.size) := Lib.hid ⟨cell_grown hg3 (by simp) (World.cell?_alloc_at _ _ _ _ rfl), by have := hg3.size; simp at this; omega⟩); have O3 := Lib.hid hown3; have B3 := Lib.hid B3; clear hown3 hg3)
          | (refine step_app_ints rfl (.tmp 36) (.tmp 38) rfl w.heap.size A3 0 c3 (l.take 0) (by simp [Act.eval, Act.put]) (O3.out.alloc _) (some ⟨w3.heap.size, 0, none⟩) 1 1 [n] (by simp [Act.eval, Act.put]) (rd_one _ _) (by omega) (by have := B3.out.size; simp; omega) ?_; intro A5 c5 w5 hown5 hg5; have O5 := Lib.hid hown5; have B5 : Hid (Below w.heap.size w w5) := Lib.hid ((B3.out.alloc B3.out.size (.cells #[.int .i64 n] 3)).grown hg5 (by have := B3.out.size; simp; omega) (fun j hj => own_base O3.out hj)); clear hown5 hg5)
          | (refine step_app_ints rfl (.tmp 36) (.tmp 38) rfl w.heap.size A3 0 c3 (l.take 0) (by simp [Act.eval, Act.put]) O3.out (some ⟨w.heap.size, 0, none⟩) 1 1 [n] (by simp [Act.eval, Act.put]) (rd_cell C3.out.2 C3.out.1) (by omega) B3.out.size ?_; intro A5 c5 w5 hown5 hg5; have O5 := Lib.hid hown5; have B5 : Hid (Below w.heap.size w w5) := Lib.hid (B3.out.grown hg5 B3.out.size (fun j hj => own_base O3.out hj)); clear hown5 hg5)
          | (refine step_app_ints rfl (.tmp 39) (.tmp 42) rfl w.heap.size A5 (0 + 1) c5 (l.take 0 ++ [n]) (by simp [Act.eval, Act.put]) O5.out none 0 0 (l.drop 0) (by simp [Act.eval, Act.put]) (RD43.out _ B5.out) (by omega) B5.out.size ?_; intro A6 c6 w6 hown6 hg6; have O6 := Lib.hid hown6; have B6 : Hid (Below w.heap.size w w6) := Lib.hid (B5.out.grown hg6 B5.out.size (fun j hj => own_base O5.out hj)); clear hown6 hg6)))
        all_goals
          go_wp2_with fail
          go_ret
          rw [← HR.out]
          exact put_end HP.out (HM.out.trans (by omega)) (by omega) O6.out B6.out
      | some ad =>
        by_cases hcj : c = j
        · subst hcj
          have RD43 : Hid (∀ w', Below w.heap.size w w' → Rd w' 1 (some ad) (0) (0) (ints (l.drop c))) := Lib.hid (fun w' hb => by
            have := (HI.out.drop (j := c) (by omega)).later hb
            rw [ints_drop] at this
            simpa using this)
          go_wp2_with fail
          go_region_law ((first
            | (refine step_app_ints rfl (.const (.slice none 0 0)) (.tmp 35) rfl w.heap.size none 0 0 [] rfl (World.ownsRow_nil _ _ _ _) (some ad) c c (l.take c) (by simp [Act.eval, Act.put]) (by have := (HI.out.take (j := c) (by omega)); rw [ints_take] at this; exact this.later (by first | exact (Below.refl _ _).drew | exact ((Below.refl _ _).alloc (Nat.le_refl _) _).drew | exact (Below.refl _ _).drew.alloc (Nat.le_refl _) _)) (by omega) (by first | exact Nat.le_refl _ | simp) ?_; intro A3 c3 w3 hown3 hg3; (try simp only [Nat.zero_add, List.nil_append] at hown3); have B3 : Below w.heap.size w w3 := (by first | exact (Below.refl _ _).drew.grown hg3 (Nat.le_refl _) (by simp [Value.ownBlock]) | exact ((Below.refl _ _).alloc (Nat.le_refl _) _).drew.grown hg3 (by simp) (by simp [Value.ownBlock])); (try have C3 : Hid (w3.cell? ⟨w.heap.size, 0, none⟩ = some (.int .i64 n) ∧ w.heap.size < w3.heap.size) := Lib.hid ⟨cell_grown hg3 (by simp) (World.cell?_alloc_at _ _ _ _ rfl), by have := hg3.size; simp at this; omega⟩); have O3 := Lib.hid hown3; have B3 := Lib.hid B3; clear hown3 hg3)
            | (refine step_app_ints rfl (.tmp 36) (.tmp 38) rfl w.heap.size A3 c c3 (l.take c) (by simp [Act.eval, Act.put]) (O3.out.alloc _) (some ⟨w3.heap.size, 0, none⟩) 1 1 [n] (by simp [Act.eval, Act.put]) (rd_one _ _) (by omega) (by have := B3.out.size; simp; omega) ?_; intro A5 c5 w5 hown5 hg5; have O5 := Lib.hid hown5; have B5 : Hid (Below w.heap.size w w5) := Lib.hid ((B3.out.alloc B3.out.size (.cells #[.int .i64 n] 3)).grown hg5 (by have := B3.out.size; simp; omega) (fun j hj => own_base O3.out hj)); clear hown5 hg5)
            | (refine step_app_ints rfl (.tmp 36) (.tmp 38) rfl w.heap.size A3 c c3 (l.take c) (by simp [Act.eval, Act.put]) O3.out (some ⟨w.heap.size, 0, none⟩) 1 1 [n] (by simp [Act.eval, Act.put]) (rd_cell C3.out.2 C3.out.1) (by omega) B3.out.size ?_; intro A5 c5 w5 hown5 hg5; have O5 := Lib.hid hown5; have B5 : Hid (Below w.heap.size w w5) := Lib.hid (B3.out.grown hg5 B3.out.size (fun j hj => own_base O3.out hj)); clear hown5 hg5)
            | (refine step_app_ints rfl (.tmp 39) (.tmp 42) rfl w.heap.size A5 (c + 1) c5 (l.take c ++ [n]) (by simp [Act.eval, Act.put]) O5.out (some ad) 0 0 (l.drop c) (by simp [Act.eval, Act.put]) (RD43.out _ B5.out) (by omega) B5.out.size ?_; intro A6 c6 w6 hown6 hg6; have O6 := Lib.hid hown6; have B6 : Hid (Below w.heap.size w w6) := Lib.hid (B5.out.grown hg6 B5.out.size (fun j hj => own_base O5.out hj)); clear hown6 hg6)))
          all_goals
            go_wp2_with fail
            go_ret
            rw [← HR.out]
            exact put_end HP.out (HM.out.trans (by omega)) (by omega) O6.out B6.out
        · skip
          have RD43 : Hid (∀ w', Below w.heap.size w w' → Rd w' 1 (some (ad.add j)) (0) ((c - j)) (ints (l.drop j))) := Lib.hid (fun w' hb => by
            have := (HI.out.drop (j := j) (by omega)).later hb
            rw [ints_drop] at this
            simpa [hcj] using this)
          go_wp2_with fail
          go_region_law ((first
            | (refine step_app_ints rfl (.const (.slice none 0 0)) (.tmp 35) rfl w.heap.size none 0 0 [] rfl (World.ownsRow_nil _ _ _ _) (some ad) j c (l.take j) (by simp [Act.eval, Act.put]) (by have := (HI.out.take (j := j) (by omega)); rw [ints_take] at this; exact this.later (by first | exact (Below.refl _ _).drew | exact ((Below.refl _ _).alloc (Nat.le_refl _) _).drew | exact (Below.refl _ _).drew.alloc (Nat.le_refl _) _)) (by omega) (by first | exact Nat.le_refl _ | simp) ?_; intro A3 c3 w3 hown3 hg3; (try simp only [Nat.zero_add, List.nil_append] at hown3); have B3 : Below w.heap.size w w3 := (by first | exact (Below.refl _ _).drew.grown hg3 (Nat.le_refl _) (by simp [Value.ownBlock]) | exact ((Below.refl _ _).alloc (Nat.le_refl _) _).drew.grown hg3 (by simp) (by simp [Value.ownBlock])); (try have C3 : Hid (w3.cell? ⟨w.heap.size, 0, none⟩ = some (.int .i64 n) ∧ w.heap.size < w3.heap.size) := Lib.hid ⟨cell_grown hg3 (by simp) (World.cell?_alloc_at _ _ _ _ rfl), by have := hg3.size; simp at this; omega⟩); have O3 := Lib.hid hown3; have B3 := Lib.hid B3; clear hown3 hg3)
            | (refine step_app_ints rfl (.tmp 36) (.tmp 38) rfl w.heap.size A3 j c3 (l.take j) (by simp [Act.eval, Act.put]) (O3.out.alloc _) (some ⟨w3.heap.size, 0, none⟩) 1 1 [n] (by simp [Act.eval, Act.put]) (rd_one _ _) (by omega) (by have := B3.out.size; simp; omega) ?_; intro A5 c5 w5 hown5 hg5; have O5 := Lib.hid hown5; have B5 : Hid (Below w.heap.size w w5) := Lib.hid ((B3.out.alloc B3.out.size (.cells #[.int .i64 n] 3)).grown hg5 (by have := B3.out.size; simp; omega) (fun j hj => own_base O3.out hj)); clear hown5 hg5)
            | (refine step_app_ints rfl (.tmp 36) (.tmp 38) rfl w.heap.size A3 j c3 (l.take j) (by simp [Act.eval, Act.put]) O3.out (some ⟨w.heap.size, 0, none⟩) 1 1 [n] (by simp [Act.eval, Act.put]) (rd_cell C3.out.2 C3.out.1) (by omega) B3.out.size ?_; intro A5 c5 w5 hown5 hg5; have O5 := Lib.hid hown5; have B5 : Hid (Below w.heap.size w w5) := Lib.hid (B3.out.grown hg5 B3.out.size (fun j hj => own_base O3.out hj)); clear hown5 hg5)
            | (refine step_app_ints rfl (.tmp 39) (.tmp 42) rfl w.heap.size A5 (j + 1) c5 (l.take j ++ [n]) (by simp [Act.eval, Act.put]) O5.out (some (ad.add j)) 0 (c - j) (l.drop j) (by simp [Act.eval, Act.put]) (RD43.out _ B5.out) (by omega) B5.out.size ?_; intro A6 c6 w6 hown6 hg6; have O6 := Lib.hid hown6; have B6 : Hid (Below w.heap.size w w6) := Lib.hid (B5.out.grown hg6 B5.out.size (fun j hj => own_base O5.out hj)); clear hown6 hg6)))
          all_goals
            go_wp2_with fail
            go_ret
            rw [← HR.out]
            exact put_end HP.out (HM.out.trans (by omega)) (by omega) O6.out B6.out
end Go.Proofs.YtoloaecbfglaeaaGreat

namespace Go.Proofs.YtoloaecbfglaeaaGreat
open Go.RowKit
set_option linter.unusedVariables false
set_option linter.unusedSimpArgs false

/-- numbers of nodes, in order -/
structure Good (N : Nat) (M : Nat → List Int) : Prop where
  up : ∀ i, (M i).Pairwise (· < ·)
  ins : ∀ i m, m ∈ M i → 0 ≤ m ∧ m < (N : Int)
theorem up_len : ∀ {l : List Int} {a b : Int}, l.Pairwise (· < ·) → (∀ m ∈ l, a ≤ m ∧ m < b) → a ≤ b → (l.length : Int) ≤ b - a
  | [], a, b, _, _, hab => by simp; omega
  | x :: l, a, b, h, hb, hab => by
    have h' := List.pairwise_cons.1 h
    have hx := hb x (by simp)
    have := up_len (l := l) (a := x + 1) (b := b) h'.2 (fun m hm => ⟨by have := h'.1 m hm; omega, (hb m (by simp [hm])).2⟩) (by omega)
    simp only [List.length_cons]
    omega
theorem Good.len {N : Nat} {M : Nat → List Int} (h : Good N M) (i : Nat) : (M i).length ≤ N := by
  have := up_len (a := 0) (b := (N : Int)) (h.up i) (h.ins i) (by omega)
  omega
theorem Good.upd {N : Nat} {M : Nat → List Int} (h : Good N M) (i : Nat) {k : Int} (hk : 0 ≤ k ∧ k < (N : Int)) : Good N (upd M i (putL (M i) k)) := by
  constructor
  · intro j
    unfold Go.Proofs.YtoloaecbfglaeaaGreat.upd
    split
    · exact putL_sorted (h.up i)
    · exact h.up j
  · intro j m hm
    unfold Go.Proofs.YtoloaecbfglaeaaGreat.upd at hm
    split at hm
    · rcases mem_putL.1 hm with hm | hm
      · exact h.ins i m hm
      · rw [hm]; exact hk
    · exact h.ins j m hm
theorem good_zero (N : Nat) : Good N (fun _ => []) := ⟨fun i => by simp, fun i m h => by simp at h⟩
theorem nstep_ne {n : Nat} {M : Nat → List Int} {k : Nat} (h : k ≠ n) : nstep n M (k : Int) = upd (upd M n (putL (M n) (k : Int))) k (putL (upd M n (putL (M n) (k : Int)) k) (n : Int)) := by
  unfold nstep
  rw [if_neg (by omega)]
  have : upd M n (putL (M n) (k : Int)) k = M k := by unfold upd; rw [if_neg h]
  rw [this, Int.toNat_natCast]
theorem nstep_eq (n : Nat) (M : Nat → List Int) : nstep n M (n : Int) = M := by unfold nstep; rw [if_pos rfl]
theorem nIn_take {n : Nat} {M : Nat → List Int} {S : List Int} {q : Nat} (hq : q < S.length) : nIn n M (S.take (q + 1)) = nstep n (nIn n M (S.take q)) (S.getD q 0) := by
  rw [List.take_succ_eq_append_getElem hq, nIn_snoc, List.getD_eq_getElem?_getD, List.getElem?_eq_getElem hq]; rfl

/-- a list of ints that lies behind block g -/
structure Rg (w : World) (g : Nat) (A : Option Addr) (n c : Nat) (l : List Int) : Prop where
  rd : Rd w 1 A n c (ints l)
  far : ∀ a, A = some a → g < a.block
section
variable {w w' : World} {g n c : Nat} {A : Option Addr} {l : List Int}
theorem Rg.later (h : Rg w g A n c l) (hb : Below w.heap.size w w') : Rg w' g A n c l := ⟨h.rd.later hb, h.far⟩
theorem Rg.store (h : Rg w g A n c l) (i : Nat) (v : Value) : Rg (w.setCell ⟨g, i, none⟩ v) g A n c l :=
  ⟨⟨h.rd.len, h.rd.cap, h.rd.nil, fun j u hj => by
    obtain ⟨a, e, hb, hc⟩ := h.rd.read j u hj
    have := h.far a e
    refine ⟨a, e, by simpa using hb, ?_⟩
    rw [World.cell?_setCell_other w ⟨g, i, none⟩ (a.add j) v (fun e => by have e2 := congrArg Addr.block e; rw [add_block] at e2; simp at e2; omega)]
    exact hc⟩, h.far⟩
end
/-- WHAT NEAR HOLDS within its loops -/
structure NW (w0 wx : World) (W H T : Int) (g N : Nat) (M : Nat → List Int) (cs : List Value) : Prop where
  below : Below w0.heap.size w0 wx
  box : Box3 wx w0.heap.size (.int .i64 W) (.int .i64 H) (.int .i64 T)
  row : wx.ownsRow g 26 1 (.slice (some ⟨g, 0, none⟩) N N) N cs
  el : ∀ i, i < N → ∃ A c, cs[i]? = some (.slice A (M i).length c) ∧ Rg wx g A (M i).length c (M i)
  hg : w0.heap.size < g
  good : Good N M
section
variable {w0 wx wy : World} {W H T : Int} {g N : Nat} {M : Nat → List Int} {cs : List Value}
theorem NW.keep (h : NW w0 wx W H T g N M cs) (hb : Below wx.heap.size wx wy) : NW w0 wy W H T g N M cs :=
  ⟨below_then h.below hb, h.box.below hb, own_keep h.row hb, fun i hi => by
    obtain ⟨A, c, e, hr⟩ := h.el i hi
    exact ⟨A, c, e, hr.later hb⟩, h.hg, h.good⟩
theorem NW.len (h : NW w0 wx W H T g N M cs) : cs.length = N := by have := h.row.1; omega
theorem NW.cell (h : NW w0 wx W H T g N M cs) {i : Nat} (hi : i < N) : ∃ A c, wx.cell? ⟨g, i, none⟩ = some (.slice A (M i).length c) ∧ wx.frozen? ⟨g, i, none⟩ = false ∧ Rg wx g A (M i).length c (M i) := by
  obtain ⟨A, c, e, hr⟩ := h.el i hi
  refine ⟨A, c, ?_, h.row.frozenAt i, hr⟩
  rw [h.row.cellAt i (by omega)]
  exact e
theorem NW.glt (h : NW w0 wx W H T g N M cs) : g < wx.heap.size := (h.row.lt g rfl).2
theorem NW.store (h : NW w0 wx W H T g N M cs) {i : Nat} (hi : i < N) {A : Option Addr} {c : Nat} {k : Int} (hk : 0 ≤ k ∧ k < (N : Int)) (hr : Rg wx g A (putL (M i) k).length c (putL (M i) k)) :
    NW w0 (wx.setCell ⟨g, i, none⟩ (.slice A (putL (M i) k).length c)) W H T g N (upd M i (putL (M i) k)) (cs.set i (.slice A (putL (M i) k).length c)) := by
  obtain ⟨h1, h2⟩ := h.row.stored i (.slice A (putL (M i) k).length c)
  have hgn := h.hg
  have hbox : ∀ j, (wx.setCell ⟨g, i, none⟩ (.slice A (putL (M i) k).length c)).cell? ⟨w0.heap.size, j, none⟩ = wx.cell? ⟨w0.heap.size, j, none⟩ := fun j =>
    World.cell?_setCell_other wx ⟨g, i, none⟩ ⟨w0.heap.size, j, none⟩ _ (fun e => by have e2 := congrArg Addr.block e; simp at e2; omega)
  refine ⟨h.below.grown h2 h.below.size (fun j hj => by injection hj with hj; omega), ⟨by simpa using h.box.lt, (hbox 0).trans h.box.c0, (hbox 1).trans h.box.c1, (hbox 2).trans h.box.c2⟩, h1, fun j hj => ?_, h.hg, h.good.upd i hk⟩
  have hl := h.len
  rw [List.getElem?_set]
  unfold upd
  by_cases e : i = j
  · subst e
    rw [if_pos rfl, if_pos (by omega), if_pos rfl]
    exact ⟨A, c, rfl, hr.store i _⟩
  · rw [if_neg e, if_neg (fun h => e h.symm)]
    obtain ⟨A', c', e', hr'⟩ := h.el j hj
    exact ⟨A', c', e', hr'.store i _⟩
end
theorem slice_info : (Tryz.prog.info? 26).map (fun i => (i.zero, i.size, i.bytes)) = some (some (.slice none 0 0), 1, 24) := by kernel_rfl
/-- what near leaves -/
def NearOut (W H T : Int) (w : World) (e : Ending) (w' : World) : Prop :=
  ∃ g N cs, e = .returned (.slice (some ⟨g, 0, none⟩) N N) ∧ nodesI W H T = (N : Int) ∧ NW w w' W H T g N (nearTo W H T N) cs
theorem own_far {w : World} {base : Nat} {e : TypeId} {n c g : Nat} {A : Option Addr} {xs : List Value} (h : w.ownsRow base e 1 (.slice A n c) n xs) (hg : g < base) : ∀ a, A = some a → g < a.block := by
  intro a ha
  subst ha
  rcases h.2 with ⟨hv, hn⟩ | ⟨g', cap, cur, hv, hb, -⟩
  · injection hv with h1; cases h1
  · injection hv with h1
    obtain rfl := Option.some.inj h1
    exact Nat.lt_of_lt_of_le hg hb

theorem swL_len {W H T : Int} (h : okA W H T) (n : Int) : (swL W H T n).length ≤ 64 := by
  have hT := h.2.2
  have h1 := hereTo_len W H T (wx W H T n) (wy W H T n) (wt W H T n) 4
  have h2 := hereTo_len W H T (wx W H T n + 1) (wy W H T n) (wt W H T n) 4
  have h3 := hereTo_len W H T (wx W H T n) (wy W H T n + 1) (wt W H T n) 4
  unfold swL
  repeat' split
  all_goals simp only [List.length_append, trk_length]
  all_goals omega
set_option maxRecDepth 100000 in
set_option maxHeartbeats 4000000 in
theorem near_yes (W H T : Int) (w : World) (h : okA W H T) :
    Calls Tryz.prog 99 #[.agg #[.int .i64 W, .int .i64 H, .int .i64 T]] w (NearOut W H T w) := by
  have hnb := nodes_bd h
  obtain ⟨N, hN⟩ : ∃ N : Nat, nodesI W H T = (N : Int) := ⟨(nodesI W H T).toNat, by omega⟩
  have hN2 : N ≤ 87040 := by omega
  have hno : nodesO W H T = (N : Int) := by unfold nodesO; rw [if_pos h, hN]
  obtain ⟨R, hR⟩ : ∃ R, NearOut W H T w = R := ⟨_, rfl⟩
  rw [hR]
  have HR := Lib.hid hR
  have HNO := Lib.hid hno
  have HN := Lib.hid hN
  have HO := Lib.hid h
  have Q0 := Lib.hid (below_new w (.cells #[.int .i64 W, .int .i64 H, .int .i64 T] 23))
  have B0 := Lib.hid (Box3.new w (.int .i64 W) (.int .i64 H) (.int .i64 T) 23)
  obtain ⟨i0, hi0, hz0, hz1, hz2⟩ := info_parts slice_info
  have HI0 := Lib.hid hi0
  have HZ0 := Lib.hid hz0
  have HZ1 := Lib.hid hz1
  have HZ2 := Lib.hid hz2
  clear hi0 hz0 hz1 hz2 hR hno hN h hnb
  go_enter Tryz.func99, Tryz.ntmps99
  go_wp2_with fail
  refine (rnodes_any _ _ _ _).mono ?_
  rintro e w1 ⟨rfl, hb1⟩
  rw [HNO.out]
  have Q1 := Lib.hid (below_then Q0.out hb1)
  have B1 := Lib.hid (Box3.below B0.out hb1)
  clear hb1
  go_wp2_with ((with_reducible refine wpList_make_full _ rfl (.tmp 8) (.tmp 8) 110 rfl w1.heap.size 26 i0 (.slice none 0 0) 1 Tryz.underlying110 HI0.out HZ0.out HZ1.out .i64 .i64 (N : Int) (N : Int) N rfl rfl rfl rfl ?c1 ?c2 (Nat.le_refl _) ?_))
  case c1 => rw [HZ2.out]; omega
  case c2 => unfold maxLen; omega
  intro w2 hm2 hg2
  have hb2 : Below w1.heap.size w1 w2 := (Below.refl _ _).grown hg2 (Nat.le_refl _) (fun _ h => by cases h)
  rw [show (madeCells #[Value.slice none 0 0] N).toList = List.replicate N (.slice none 0 0) from toList_madeCells_one _ _] at hm2
  have W2 : Hid (NW w w2 W H T w1.heap.size N (nearTo W H T 0) (List.replicate N (.slice none 0 0))) := Lib.hid
    ⟨below_then Q1.out hb2, B1.out.below hb2, hm2, fun i hi => ⟨none, 0, by rw [List.getElem?_replicate, if_pos hi]; rfl, ⟨Rd.empty, fun a ha => by cases ha⟩⟩, B1.out.lt, good_zero N⟩
  clear hm2 hg2 hb2
  generalize w1.heap.size = g at W2
  go_wp2_with fail
  go_loopw [12] (fun i wx => ∃ (n : Nat) (cs : List Value), n ≤ N ∧ i = .int .i64 (n : Int) ∧ NW w wx W H T g N (nearTo W H T n) cs) (fun i _ => N - (intOf i).toNat)
  case atStart => exact ⟨0, _, by omega, rfl, W2.out⟩
  case round =>
    clear W2
    obtain ⟨n, cs, hn, rfl, hw⟩ := hrel
    have HW := Lib.hid hw
    clear hw
    have k0 := HW.out.box.c0
    have k1 := HW.out.box.c1
    have k2 := HW.out.box.c2
    by_cases hlt : n < N
    · go_wp2_with fail
      refine (rsw_any W H T _ _ ⟨HO.out, by omega, by rw [HN.out]; omega⟩).mono ?_
      rintro e w3 ⟨A3, c3, rfl, ho3, hb3⟩
      obtain ⟨S, hS⟩ : ∃ S, swL W H T (n : Int) = S := ⟨_, rfl⟩
      rw [hS] at ho3 ⊢
      have HS := Lib.hid hS
      have X3 := Lib.hid (HW.out.keep hb3)
      have R3 : Hid (Rg w3 g A3 S.length c3 S) := Lib.hid ⟨Rd.of_own ho3, own_far ho3 HW.out.glt⟩
      have hSl : S.length ≤ 64 := by rw [← hS]; exact swL_len HO.out _
      clear ho3 hb3 hS k0 k1 k2 HW
      obtain ⟨m, hm⟩ : ∃ m, S.length = m := ⟨_, rfl⟩
      have HM := Lib.hid hm
      rw [hm] at R3 hSl ⊢
      clear hm
      go_wp2_with fail
      go_loopw [19] (fun i wx => ∃ (q : Nat) (ds : List Value), q ≤ m ∧ i = .int .i64 (q : Int) ∧ NW w wx W H T g N (nIn n (nearTo W H T n) (S.take q)) ds ∧ Rg wx g A3 m c3 S) (fun i _ => m - (intOf i).toNat)
      case atStart => exact ⟨0, cs, by omega, rfl, X3.out, R3.out⟩
      case round =>
        clear X3 R3
        obtain ⟨q, ds, hq, rfl, hw, hr⟩ := hrel
        have HW := Lib.hid hw
        have HRG := Lib.hid hr
        clear hw hr
        by_cases hqm : q < m
        · obtain ⟨a3, ha3, ha3b, hcell⟩ := HRG.out.rd.int hqm
          subst ha3
          have hqS : q < S.length := by rw [HM.out]; exact hqm
          have hmem : S.getD q 0 ∈ swL W H T (n : Int) := by rw [HS.out, List.getD_eq_getElem?_getD, List.getElem?_eq_getElem hqS]; exact List.getElem_mem hqS
          have hin := (swL_mem ⟨HO.out, by omega, by rw [HN.out]; omega⟩ hmem).1
          have htk := nIn_take (n := n) (M := nearTo W H T n) hqS
          obtain ⟨k, hk⟩ : ∃ k : Nat, S.getD q 0 = (k : Int) := ⟨(S.getD q 0).toNat, by have := hin.2.1; omega⟩
          rw [hk] at hcell htk hin
          have hkN : k < N := by have := hin.2.2; rw [HN.out] at this; omega
          have HTK := Lib.hid htk
          clear hmem hin htk hk
          obtain ⟨M, hM⟩ : ∃ M, nIn n (nearTo W H T n) (S.take q) = M := ⟨_, rfl⟩
          rw [hM] at HW HTK
          clear hM
          by_cases e : k = n
          · subst e
            go_wp2_with fail
            go_roundw
            case rel => exact ⟨q + 1, ds, by omega, by go_num, by rw [HTK.out, nstep_eq]; exact HW.out, HRG.out⟩
            case measure => simp [intOf]; omega
          · have hne : ((k : Int) != (n : Int)) = true := by simp; omega
            obtain ⟨A4, c4, d0, f0, rg4⟩ := HW.out.cell hlt
            have hl4 := HW.out.good.len n
            have RG4 := Lib.hid rg4
            clear rg4
            go_wp2_with fail
            refine (put_any _ _ _ _ _ _ RG4.out.rd (by omega)).mono ?_
            rintro e w4 ⟨A5, c5, rfl, hrd5, hor5, hb5⟩
            have hk2 : (0 : Int) ≤ (k : Int) ∧ (k : Int) < (N : Int) := ⟨by omega, by omega⟩
            have hn2 : (0 : Int) ≤ (n : Int) ∧ (n : Int) < (N : Int) := ⟨by omega, by omega⟩
            have H1 := HW.out.keep hb5
            have rg5 : Rg w4 g A5 (putL (M n) (k : Int)).length c5 (putL (M n) (k : Int)) := ⟨hrd5, fun a ha => by
              rcases hor5 with e5 | ⟨a5, e5, hb⟩
              · exact RG4.out.far a (e5.symm.trans ha)
              · rw [e5] at ha
                obtain rfl := Option.some.inj ha
                exact Nat.lt_of_lt_of_le HW.out.glt hb⟩
            have H2 := H1.store hlt hk2 rg5
            have S2 := Lib.hid ((HRG.out.later hb5).store n (.slice A5 (putL (M n) (k : Int)).length c5))
            obtain ⟨A6, c6, d1, f1, -⟩ := H1.cell hlt
            obtain ⟨A7, c7, d2, f2, rg7⟩ := H2.cell hkN
            have d3 : w4.cell? ⟨g, k, none⟩ = some (.slice A7 (upd M n (putL (M n) (k : Int)) k).length c7) := by
              rw [← World.cell?_setCell_other w4 ⟨g, n, none⟩ ⟨g, k, none⟩ (.slice A5 (putL (M n) (k : Int)).length c5) (fun e' => e (by simpa using e'.symm))]
              exact d2
            have RG7 := Lib.hid rg7
            have X2 := Lib.hid H2
            have hl7 := H2.good.len k
            clear H1 H2 rg5 rg7 hb5 hrd5 hor5 d0 f0 hcell RG4 HRG
            generalize (putL (M n) (k : Int)).length = L5 at d2 d3 S2 X2 RG7
            obtain ⟨M1, hM1⟩ : ∃ M1, upd M n (putL (M n) (k : Int)) = M1 := ⟨_, rfl⟩
            rw [hM1] at d2 d3 X2 RG7 hl7
            have HM1 := Lib.hid hM1
            clear hM1
            go_wp2_with fail
            refine (put_any _ _ _ _ _ _ RG7.out.rd (by omega)).mono ?_
            rintro e w5 ⟨A8, c8, rfl, hrd8, hor8, hb8⟩
            have H3 := X2.out.keep hb8
            have rg8 : Rg w5 g A8 (putL (M1 k) (n : Int)).length c8 (putL (M1 k) (n : Int)) := ⟨hrd8, fun a ha => by
              rcases hor8 with e8 | ⟨a8, e8, hb⟩
              · exact RG7.out.far a (e8.symm.trans ha)
              · rw [e8] at ha
                obtain rfl := Option.some.inj ha
                exact Nat.lt_of_lt_of_le X2.out.glt hb⟩
            have X4 := Lib.hid (H3.store hkN hn2 rg8)
            have S4 := Lib.hid ((S2.out.later hb8).store k (.slice A8 (putL (M1 k) (n : Int)).length c8))
            obtain ⟨A9, c9, d4, f4, -⟩ := H3.cell hkN
            clear H3 rg8 hb8 hrd8 hor8 d1 d2 d3 f1 f2 RG7 S2 X2
            go_wp2_with fail
            go_roundw
            case rel => exact ⟨q + 1, _, by omega, by go_num, by rw [HTK.out, nstep_ne e, HM1.out]; exact X4.out, S4.out⟩
            case measure => simp [intOf]; omega
        · obtain rfl : q = m := by omega
          have hfull : S.take q = S := by rw [List.take_of_length_le (by rw [HM.out]; exact Nat.le_refl _)]
          rw [hfull] at HW
          clear hfull
          go_wp2_with fail
          go_roundw
          case rel => exact ⟨n + 1, ds, by omega, by go_num, by rw [← HS.out] at HW; exact HW.out⟩
          case measure => simp [intOf]; omega
    · obtain rfl : n = N := by omega
      go_wp2_with fail
      rw [← HR.out]
      exact ⟨g, n, cs, rfl, HN.out, HW.out⟩
end Go.Proofs.YtoloaecbfglaeaaGreat

namespace Go.Proofs.YtoloaecbfglaeaaGreat
open Go.RowKit
set_option linter.unusedVariables false
set_option linter.unusedSimpArgs false

theorem upL_le (M : List Int) (n q : Nat) (hq : q ≤ M.length) : (upL M n q).length ≤ (upL M n M.length).length := by
  unfold upL
  rw [List.length_map, List.length_map, List.take_length]
  exact ((List.take_sublist q M).filter _).length_le
theorem pairsTo_le (M : Nat → List Int) : ∀ {n k : Nat}, n ≤ k → (pairsTo M n).length ≤ (pairsTo M k).length
  | n, 0, h => by obtain rfl : n = 0 := by omega
                  exact Nat.le_refl _
  | n, k + 1, h => by
    by_cases e : n = k + 1
    · subst e; exact Nat.le_refl _
    · have := pairsTo_le M (n := n) (k := k) (by omega)
      simp only [pairsTo, List.length_append]
      omega
theorem pairs_bd {M : Nat → List Int} {n N q : Nat} (hn : n < N) (hq : q ≤ (M n).length) : (pairsTo M n ++ upL (M n) n q).length ≤ (pairsTo M N).length := by
  have h1 := pairsTo_le M (n := n + 1) (k := N) (by omega)
  have h2 := upL_le (M n) n q hq
  simp only [pairsTo, List.length_append] at h1 ⊢
  omega

theorem redges_no (W H T : Int) (w : World) (h : ¬ okA W H T) :
    Calls Tryz.prog 77 #[.agg #[.int .i64 W, .int .i64 H, .int .i64 T]] w fun e w' => e = .returned (.tuple #[.slice none 0 0, .int .i64 1]) ∧ Below w.heap.size w w' := by
  go_enter Tryz.func77, Tryz.ntmps77
  go_wp2_with (go_at_call 47; refine (rcheck_no W H T _ h).mono ?_; rintro e w1 ⟨rfl, hb1⟩)
  go_ret2
  exact ⟨rfl, below_then (below_new w _) hb1⟩

set_option maxRecDepth 100000 in
set_option maxHeartbeats 4000000 in
theorem redges_yes (W H T : Int) (w : World) (h : okA W H T) :
    Calls Tryz.prog 77 #[.agg #[.int .i64 W, .int .i64 H, .int .i64 T]] w (EdgesOut W H T w) := by
  have hlen : (edgesL W H T).length ≤ 6000000 := by have := rawL_len h; unfold edgesL; rw [sortP_length]; exact this
  have HLEN := Lib.hid hlen
  obtain ⟨R, hR⟩ : ∃ R, EdgesOut W H T w = R := ⟨_, rfl⟩
  rw [hR]
  have HR := Lib.hid hR
  have HO := Lib.hid h
  have Q0 := Lib.hid (below_new w (.cells #[.int .i64 W, .int .i64 H, .int .i64 T] 23))
  have B0 := Lib.hid (Box3.new w (.int .i64 W) (.int .i64 H) (.int .i64 T) 23)
  clear hR h hlen
  go_enter Tryz.func77, Tryz.ntmps77
  go_wp2_with fail
  refine (rcheck_yes _ _ _ _ HO.out).mono ?_
  rintro e w1 ⟨rfl, hb1⟩
  have Q1 := Lib.hid (below_then Q0.out hb1)
  have B1 := Lib.hid (Box3.below B0.out hb1)
  have k0 := B1.out.c0
  have k1 := B1.out.c1
  have k2 := B1.out.c2
  clear hb1
  go_wp2_with fail
  refine (near_yes _ _ _ _ HO.out).mono ?_
  rintro e w2 ⟨g, N, cs, rfl, hN, hw⟩
  have HN := Lib.hid hN
  have hN2 : N ≤ 87040 := by have := nodes_bd HO.out; omega
  have HW := Lib.hid hw
  have Q2 := Lib.hid (below_then Q1.out hw.below)
  clear hN hw k0 k1 k2
  obtain ⟨M, hM⟩ : ∃ M, nearTo W H T N = M := ⟨_, rfl⟩
  have HM := Lib.hid hM
  rw [hM] at HW
  clear hM
  have hbd : (pairsTo M N).length ≤ 6000000 := by rw [← HM.out, pairs_edges HO.out HN.out]; exact HLEN.out
  go_wp2_with fail
  go_loopw [4, 15] (fun v i wx => ∃ n : Nat, n ≤ N ∧ i = .int .i64 (n : Int) ∧ Below w2.heap.size w2 wx ∧ wx.ownsRow w2.heap.size 95 2 v (pairsTo M n).length (pc (pairsTo M n))) (fun _ i _ => N - (intOf i).toNat)
  case atStart => exact ⟨0, by omega, rfl, Below.refl _ _, by simpa [pairsTo, pc] using World.ownsRow_nil _ _ _ _⟩
  case round =>
    obtain ⟨n, hn, rfl, hb, ho⟩ := hrel
    obtain ⟨AA, cc, rfl⟩ := own_slice ho
    have HB := Lib.hid hb
    have HOW := Lib.hid ho
    have hsz : w2.heap.size ≤ wr.heap.size := hb.size
    clear hb ho
    by_cases hlt : n < N
    · obtain ⟨A3, c3, d0, -, rg3⟩ := HW.out.cell hlt
      have hl3 := HW.out.good.len n
      have RG := Lib.hid rg3
      have d1 := (HB.out.cell (p := ⟨g, n, none⟩) HW.out.glt).trans d0
      clear d0 rg3
      obtain ⟨m, hm⟩ : ∃ m, (M n).length = m := ⟨_, rfl⟩
      have HMM := Lib.hid hm
      rw [hm] at d1 RG hl3
      clear hm
      go_wp2_with fail
      go_loopw [4, 22] (fun v i wx => ∃ q : Nat, q ≤ m ∧ i = .int .i64 (q : Int) ∧ Below w2.heap.size w2 wx ∧ wx.ownsRow w2.heap.size 95 2 v (pairsTo M n ++ upL (M n) n q).length (pc (pairsTo M n ++ upL (M n) n q))) (fun _ i _ => m - (intOf i).toNat)
      case atStart => exact ⟨0, by omega, rfl, HB.out, by rw [upL_zero, List.append_nil]; exact HOW.out⟩
      case round =>
        clear HB HOW hsz d1
        obtain ⟨q, hq, rfl, hb, ho⟩ := hrel
        obtain ⟨AA, cc, rfl⟩ := own_slice ho
        have HB := Lib.hid hb
        have HOW := Lib.hid ho
        have hsz : w2.heap.size ≤ wr.heap.size := hb.size
        clear hb ho
        by_cases hqm : q < m
        · obtain ⟨a3, ha3, hab, hc⟩ := (RG.out.rd.later HB.out).int hqm
          subst ha3
          have hqM : q < (M n).length := by rw [HMM.out]; exact hqm
          have hup := upL_succ (n := n) hqM
          have hbq := pairs_bd (M := M) (n := n) (N := N) (q := q) hlt (by omega)
          obtain ⟨k, hk⟩ : ∃ k, (M n).getD q 0 = k := ⟨_, rfl⟩
          rw [hk] at hc hup
          have HUP := Lib.hid hup
          clear hk hup
          obtain ⟨L, hL⟩ : ∃ L, pairsTo M n ++ upL (M n) n q = L := ⟨_, rfl⟩
          rw [hL] at HOW hbq ⊢
          have HL := Lib.hid hL
          clear hL
          obtain ⟨len, hlen⟩ : ∃ len, L.length = len := ⟨_, rfl⟩
          rw [hlen] at HOW hbq ⊢
          have HLN := Lib.hid hlen
          clear hlen
          by_cases e : (n : Int) < k
          · go_wp2_with (at_builtin; refine wpList_app_pair rfl (.tmp 29) (.tmp 33) rfl w2.heap.size AA len cc L rfl HOW.out (n : Int) k rfl (by omega) hsz ?_)
            intro A5 c5 w5 hown5 hg5
            have B5 := Lib.hid ((HB.out.alloc hsz (.cells #[.int .i64 (n : Int), .int .i64 k] 95)).grown hg5 (by simp; omega) (fun j hj => own_base HOW.out hj))
            have O5 := Lib.hid hown5
            clear hown5 hg5
            go_wp2_with fail
            go_roundw
            case rel =>
              refine ⟨q + 1, by omega, by go_num, B5.out, ?_⟩
              rw [HUP.out, if_pos e, ← List.append_assoc, HL.out, List.length_append, HLN.out]
              exact O5.out
            case measure => simp [intOf]; omega
          · go_wp2_with fail
            go_roundw
            case rel =>
              refine ⟨q + 1, by omega, by go_num, HB.out, ?_⟩
              rw [HUP.out, if_neg e, List.append_nil, HL.out, HLN.out]
              exact HOW.out
            case measure => simp [intOf]; omega
        · obtain rfl : q = m := by omega
          go_wp2_with fail
          go_roundw
          case rel =>
            refine ⟨n + 1, by omega, by go_num, HB.out, ?_⟩
            have hp : pairsTo M (n + 1) = pairsTo M n ++ upL (M n) n q := by rw [← HMM.out]; rfl
            rw [hp]
            exact HOW.out
          case measure => simp [intOf]; omega
    · obtain rfl : n = N := by omega
      have hp : pairsTo M n = edgesL W H T := by rw [← HM.out]; exact pairs_edges HO.out HN.out
      have HP := Lib.hid hp
      clear hp
      go_wp2_with fail
      rw [← HR.out]
      exact ⟨.slice AA (pairsTo M n).length cc, rfl, Q2.out.trans (HB.out.mono Q2.out.size), by rw [← HP.out]; exact own_low HOW.out Q2.out.size⟩
end Go.Proofs.YtoloaecbfglaeaaGreat
