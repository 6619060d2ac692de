/- The sort that Edges calls, said of what Edges holds. -/
import Derived.Test.YtakccepilbmmlaaEdF
import Derived.Test.YtakccepilbmmlaaEdA
import Derived.Test.YtakccepilbmmlaaShelf
import Derived.Lib.OwnBridge
import Derived.Deep.AppendLies
import Derived.Sort.LotA
namespace Go.Proofs.Ytakccepilbmmlaa
open Go.RowKit Go.Shelf Go.Lib Go.Sort
set_option linter.unusedVariables false
set_option linter.unusedSimpArgs false

def encP (p : Int × Int) : List Value := [.int .i64 p.1, .int .i64 p.2]
theorem pc_get : ∀ (xs : List (Int × Int)) (t : Nat), t < xs.length * 2 → (pc xs)[t]? = some ((encP xs[t / 2]!)[t % 2]!)
  | [], t, h => by simp at h
  | x :: xs, 0, _ => by simp [pc, encP]
  | x :: xs, 1, _ => by simp [pc, encP]
  | x :: xs, t + 2, h => by
    have e1 : (t + 2) / 2 = t / 2 + 1 := by omega
    have e2 : (t + 2) % 2 = t % 2 := by omega
    have h' : t < xs.length * 2 := by simp at h; omega
    have := pc_get xs t h'
    rw [e1, e2]
    simpa [pc] using this
theorem pc_length (xs : List (Int × Int)) : (pc xs).length = xs.length * 2 := by
  induction xs with
  | nil => rfl
  | cons x xs ih => simp [pc] at ih ⊢; omega
theorem flat_pc (xs : List (Int × Int)) : (flatK encP 2 xs.toArray).toList = pc xs := by
  apply List.ext_getElem?
  intro t
  by_cases h : t < xs.length * 2
  · rw [pc_get xs t h]
    have hs : t < (flatK encP 2 xs.toArray).size := by simpa using h
    rw [Array.getElem?_toList, Array.getElem?_eq_getElem hs]
    have := get_flatK encP 2 xs.toArray t (by simpa using h)
    rw [getElem!_pos _ t hs] at this
    rw [this]
    simp
  · have a : (flatK encP 2 xs.toArray).toList[t]? = none := List.getElem?_eq_none (by simp; omega)
    have b : (pc xs)[t]? = none := List.getElem?_eq_none (by rw [pc_length]; omega)
    rw [a, b]

theorem holds_own {w : World} {base g n cap : Nat} {e : TypeId} {xs : List (Int × Int)} (h : w.ownsRow base e 2 (.slice (some ⟨g, 0, none⟩) n cap) n (pc xs)) : HoldsK encP 2 w g 0 xs.toArray := by
  have hl : xs.length = n := by have := h.1; rw [pc_length] at this; omega
  rcases h.2 with ⟨e0, _⟩ | ⟨g', cap', cur, e0, hb, hg, hn, hm, hs, ht⟩
  · cases e0
  · injection e0 with e1 _ e3
    injection e1 with e1
    injection e1 with e1
    subst e1; subst e3
    intro j hj
    have hj' : j < xs.length * 2 := by simpa using hj
    refine ⟨?_, by simp [World.frozen?, hg]⟩
    have e1 : (cur.toList.take (n * 2))[j]? = (pc xs)[j]? := by rw [ht]
    rw [List.getElem?_take, if_pos (by omega), Array.getElem?_toList, pc_get xs j hj'] at e1
    simp only [World.cell?, hg, Nat.zero_add]
    simp only [Option.isSome_none, Bool.false_eq_true, if_false]
    rw [e1, get_flatK encP 2 xs.toArray j (by simpa using hj')]
    simp

theorem own_sorted {w : World} {base g n cap q : Nat} {e : TypeId} {cells : List Value} {ys : Array Value} {os : Array Obj} (h : w.ownsRow base e 2 (.slice (some ⟨g, 0, none⟩) n cap) n cells) (hy : ys.size = n * 2) :
    (grow (putRow id (Sort.ahead w q) g 0 ys) os).ownsRow base e 2 (.slice (some ⟨g, 0, none⟩) n cap) n ys.toList := by
  rcases h.2 with ⟨e0, _⟩ | ⟨g', cap', cur, e0, hb, hg, hn, hm, hs, ht⟩
  · cases e0
  · injection e0 with e1 _ e3
    injection e1 with e1
    injection e1 with e1
    subst e1; subst e3
    have hlt : g < w.heap.size := lt_of_block hg
    refine ⟨by simpa using hy, .inr ⟨g, cap, putCells id 0 ys cur, rfl, hb, ?_, hn, hm, by simpa [putCells] using hs, ?_⟩⟩
    · show ((w.heap.modify g (onCells (putCells id 0 ys))) ++ os)[g]? = _
      rw [Array.getElem?_append_left (by simpa using hlt), Array.getElem?_modify]
      simp [hg, onCells]
    · apply List.ext_getElem?
      intro j
      rw [List.getElem?_take, Array.getElem?_toList, Array.getElem?_toList]
      by_cases hj : j < n * 2
      · have hjc : j < cur.size := by have : n * 2 ≤ cap * 2 := Nat.mul_le_mul_right 2 hn; omega
        simp only [if_pos hj, putCells, Array.getElem?_mapIdx, Array.getElem?_eq_getElem hjc, Option.map_some]
        rw [if_pos (by simp; omega), Array.getElem?_eq_getElem (by omega)]
        simp [getElem!_pos, show j < ys.size by omega]
      · simp [hj]; omega

theorem blk_sorted {w : World} {g g' q : Nat} {t : TypeId} {cs ys : Array Value} {os : Array Obj} (h : Blk w g t cs) (hne : g ≠ g') : Blk (grow (putRow id (Sort.ahead w q) g' 0 ys) os) g t cs := by
  have hlt := h.lt
  unfold Blk at h ⊢
  show ((w.heap.modify g' (onCells (putCells id 0 ys))) ++ os)[g]? = _
  rw [Array.getElem?_append_left (by simpa using hlt), Array.getElem?_modify, if_neg (Ne.symm hne), h]

theorem below_sorted {B : Nat} {w0 w : World} {g q : Nat} {ys : Array Value} {os : Array Obj} (h : Below B w0 w) (hg : B ≤ g) (hB : B ≤ w.heap.size) : Below B w0 (grow (putRow id (Sort.ahead w q) g 0 ys) os) :=
  ⟨h.os, h.tape, h.output, by have := h.size; simp [grow, putRow, mapBlock, Sort.ahead]; omega, fun k hk => by
    rw [← h.block k hk]
    show ((w.heap.modify g (onCells (putCells id 0 ys))) ++ os)[k]? = _
    rw [Array.getElem?_append_left (by simp; omega), Array.getElem?_modify, if_neg (by omega)]⟩

theorem pcmp_lt (x y : Int × Int) : ltOf pcmp x y = decide (x.1 < y.1 ∨ x.1 = y.1 ∧ x.2 < y.2) := by
  unfold ltOf pcmp cmpI
  rw [Bool.eq_iff_iff]
  simp only [decide_eq_true_eq]
  repeat' split
  all_goals omega
theorem pcmp_swo : SWO (ltOf pcmp) where
  irrefl x := by rw [pcmp_lt]; simp
  trans x y z h1 h2 := by rw [pcmp_lt] at *; simp at *; omega
  ntrans x y z h1 h2 := by rw [pcmp_lt] at *; simp at *; omega
theorem pcmp_total (x y : Int × Int) (h1 : ltOf pcmp x y = false) (h2 : ltOf pcmp y x = false) : x = y := by
  rw [pcmp_lt] at h1 h2
  simp at h1 h2
  exact Prod.ext (by omega) (by omega)
/-- in order -/
def sortP (xs : List (Int × Int)) : List (Int × Int) := xs.mergeSort fun x y => !(ltOf pcmp) y x
theorem sortP_length (xs : List (Int × Int)) : (sortP xs).length = xs.length := by simp [sortP]

theorem pcmpLays (blk off size : Nat) (w : World) : CmpLays Try.prog 55 #[] encP 2 pcmp blk off size w :=
  fun _ _ _ _ x y => pcmp_any x y _

theorem sort_any (w0 w : World) (B A J : Nat) (W H T : Int) (xs : List (Int × Int)) (hx : EW w0 w B A J W H T xs) (hne : 0 < xs.length) (hlen : xs.length ≤ 100000000) (v : Value) (hv : Blk w B 35 #[v]) (hown : w.ownsRow w0.heap.size 39 2 v xs.length (pc xs)) :
    Calls Try.prog 54 #[v, .func (.func 55) #[] #[]] w fun e w' => e = .returned (.tuple #[]) ∧ Below w0.heap.size w0 w' ∧ Blk w' B 35 #[v] ∧ w'.ownsRow w0.heap.size 39 2 v xs.length (pc (sortP xs)) := by
  obtain ⟨g, cap, rfl, hbase, hlt⟩ := hown.form hne
  have eg : ∀ args w, (callFunc 55 args).run Try.prog w = .ok (.enter 55 args) w := enters_of Try.func55 (by kernel_rfl) rfl
  have hcon := AnyQ.slices_SortFunc Try.sortPair 2 (fun _ => by kernel_rfl) (fun _ => by kernel_rfl) encP (fun _ => rfl) (fun x v hv => by simp [encP] at hv; rcases hv with rfl | rfl <;> rfl) pcmp pcmp_swo 55 #[] g 0 cap xs.toArray w eg (pcmpLays g 0 _ w) (holds_own hown) hlt (by simp; omega)
  change Calls Try.prog 54 _ _ _ at hcon
  have hgB : B ≠ g := by
    have := own_other hown hv (by decide)
    simpa [Value.ownBlock, eq_comm] using this
  refine hcon.mono fun e w' ⟨he, d', n, os, hp, hs, hw⟩ => ?_
  have hd : d' = (sortP xs).toArray := Array.ext' (by simpa [sortP] using sorted_unique_holds pcmp_swo pcmp_total xs.toArray d' hp hs)
  subst hw
  subst hd
  refine ⟨he, ?_, ?_, ?_⟩
  · exact below_sorted hx.below hbase hx.below.size
  · exact blk_sorted hv hgB
  · rw [← flat_pc]
    exact own_sorted hown (by simp [sortP_length])
end Go.Proofs.Ytakccepilbmmlaa
