/- The switches of a fabric, as Edges puts them together: plain lists, no program here. -/
import Derived.Test.YtakccepilbmmlaaEdC
namespace Go.Proofs.Ytakccepilbmmlaa
set_option linter.unusedVariables false
set_option linter.unusedSimpArgs false

/-- a node's switches with the first k places around a tile -/
def arTo (W H T n x y : Int) : Nat → List (Int × Int)
  | 0 => []
  | k + 1 => arTo W H T n x y k ++ meetTo W H T n (arC k) (arX x k) (arY y k) T.toNat
/-- the switches that a node that is no track has -/
def nodeL (W H T n : Int) : List (Int × Int) :=
  if whK W H T n = 1 then arTo W H T n (whX W H T n) (whY W H T n) 4
  else if whK W H T n = 2 then meetTo W H T n (arC (whT W H T n).toNat) (arX (whX W H T n) (whT W H T n).toNat) (arY (whY W H T n) (whT W H T n).toNat) T.toNat
  else if whK W H T n = 3 then meetTo W H T n (brC W H (whX W H T n)) (brX W H (whX W H T n)) (brY W H (whX W H T n)) T.toNat
  else []
def loop1 (W H T : Int) : Nat → List (Int × Int)
  | 0 => []
  | k + 1 => loop1 W H T k ++ nodeL W H T (k : Int)
/-- the four places at a corner -/
def coC : Nat → Nat
  | 0 => 3
  | 1 => 3
  | _ => 4
def coX (x : Int) : Nat → Int
  | 0 => x - 1
  | _ => x
def coY (y : Int) : Nat → Int
  | 2 => y - 1
  | _ => y
theorem coC_lt (k : Nat) : coC k < 5 := by
  rcases k with _ | _ | k <;> simp [coC]
/-- the tracks t that are there among the first k places of a corner -/
def hereTo (W H T x y t : Int) : Nat → List Int
  | 0 => []
  | k + 1 => hereTo W H T x y t k ++ (if nodeE W H T (coC k) (coX x k) (coY y k) t = 0 then [nodeN W H T (coC k) (coX x k) (coY y k) t] else [])
def cornerTo (W H T x y t : Int) : Nat → List (Int × Int)
  | 0 => []
  | k + 1 => cornerTo W H T x y t k ++ (if nodeE W H T (coC k) (coX x k) (coY y k) t = 0 then (hereTo W H T x y t k).map fun m => (lo m (nodeN W H T (coC k) (coX x k) (coY y k) t), hi m (nodeN W H T (coC k) (coX x k) (coY y k) t)) else [])
def tTo (W H T x y : Int) : Nat → List (Int × Int)
  | 0 => []
  | k + 1 => tTo W H T x y k ++ cornerTo W H T x y (k : Int) 4
def yTo (W H T x : Int) : Nat → List (Int × Int)
  | 0 => []
  | k + 1 => yTo W H T x k ++ tTo W H T x (k : Int) T.toNat
def xTo (W H T : Int) : Nat → List (Int × Int)
  | 0 => []
  | k + 1 => xTo W H T k ++ yTo W H T (k : Int) (H + 1).toNat
/-- ALL SWITCHES, as they are put in -/
def rawL (W H T : Int) : List (Int × Int) := loop1 W H T (nodesI W H T).toNat ++ xTo W H T (W + 1).toNat

theorem arTo_len {W H T n x y : Int} (hT : T ≤ 16) (k : Nat) : (arTo W H T n x y k).length ≤ 16 * k := by
  induction k with
  | zero => simp [arTo]
  | succ k ih =>
    have := meetTo_len W H T n (arC k) (arX x k) (arY y k) T.toNat
    simp only [arTo, List.length_append]; omega
theorem nodeL_len {W H T n : Int} (hT : T ≤ 16) : (nodeL W H T n).length ≤ 64 := by
  unfold nodeL
  split
  · have := arTo_len (W := W) (H := H) (n := n) (x := whX W H T n) (y := whY W H T n) hT 4
    omega
  · split
    · have := meetTo_len W H T n (arC (whT W H T n).toNat) (arX (whX W H T n) (whT W H T n).toNat) (arY (whY W H T n) (whT W H T n).toNat) T.toNat
      omega
    · split
      · have := meetTo_len W H T n (brC W H (whX W H T n)) (brX W H (whX W H T n)) (brY W H (whX W H T n)) T.toNat
        omega
      · simp
theorem loop1_len {W H T : Int} (hT : T ≤ 16) (k : Nat) : (loop1 W H T k).length ≤ 64 * k := by
  induction k with
  | zero => simp [loop1]
  | succ k ih =>
    have := nodeL_len (W := W) (H := H) (n := (k : Int)) hT
    simp only [loop1, List.length_append]; omega
theorem hereTo_len (W H T x y t : Int) (k : Nat) : (hereTo W H T x y t k).length ≤ k := by
  induction k with
  | zero => simp [hereTo]
  | succ k ih =>
    simp only [hereTo, List.length_append]
    split <;> simp <;> omega
theorem cornerTo_len (W H T x y t : Int) (k : Nat) : (cornerTo W H T x y t k).length ≤ k * k := by
  induction k with
  | zero => simp [cornerTo]
  | succ k ih =>
    have := hereTo_len W H T x y t k
    have e : (k + 1) * (k + 1) = k * k + 2 * k + 1 := by rw [Nat.add_mul, Nat.mul_add]; omega
    simp only [cornerTo, List.length_append]
    split <;> simp <;> omega
theorem tTo_len (W H T x y : Int) (k : Nat) : (tTo W H T x y k).length ≤ 16 * k := by
  induction k with
  | zero => simp [tTo]
  | succ k ih =>
    have := cornerTo_len W H T x y (k : Int) 4
    simp only [tTo, List.length_append]; omega
theorem yTo_len {W H T x : Int} (hT : T ≤ 16) (k : Nat) : (yTo W H T x k).length ≤ 256 * k := by
  induction k with
  | zero => simp [yTo]
  | succ k ih =>
    have := tTo_len W H T x (k : Int) T.toNat
    simp only [yTo, List.length_append]; omega
theorem xTo_len {W H T : Int} (hH : H ≤ 16) (hT : T ≤ 16) (k : Nat) : (xTo W H T k).length ≤ 4352 * k := by
  induction k with
  | zero => simp [xTo]
  | succ k ih =>
    have := yTo_len (W := W) (H := H) (x := (k : Int)) hT (H + 1).toNat
    simp only [xTo, List.length_append]; omega
end Go.Proofs.Ytakccepilbmmlaa
