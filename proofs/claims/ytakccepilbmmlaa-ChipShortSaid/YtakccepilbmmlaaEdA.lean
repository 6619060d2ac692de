/- Walks of filigree/fabric: what Edges' own variables hold, and its closure 'join'. -/
import Derived.Test.YtakccepilbmmlaaFabF
import Derived.Test.YtakccepilbmmlaaBox
import Derived.OneCell
import Derived.Laws.OwnMore
import Derived.Laws.Rows
namespace Go.Proofs.Ytakccepilbmmlaa
open Go.RowKit
set_option linter.unusedVariables false
set_option linter.unusedSimpArgs false

/-- block g is just these cells of type t -/
def Blk (w : World) (g : Nat) (t : TypeId) (cs : Array Value) : Prop := w.heap[g]? = some (.cells cs t (0, 0))
section
variable {w w' : World} {g : Nat} {t : TypeId} {cs : Array Value}
theorem Blk.lt (h : Blk w g t cs) : g < w.heap.size := lt_of_block h
theorem Blk.cell (h : Blk w g t cs) (i : Nat) : w.cell? ⟨g, i, none⟩ = cs[i]? := cell_of_row w g i cs t (0, 0) h
theorem Blk.free (h : Blk w g t cs) (i : Nat) : w.frozen? ⟨g, i, none⟩ = false := frozen_of_row w g i cs t h
theorem Blk.made (w : World) (t : TypeId) (cs : Array Value) : Blk (w.alloc (.cells cs t)) w.heap.size t cs := heap_alloc_new w _
theorem Blk.alloc (h : Blk w g t cs) (o : Obj) : Blk (w.alloc o) g t cs := (Below.heap_alloc w o g h.lt).trans h
theorem Blk.put (h : Blk w g t cs) (i : Nat) (u : Value) : Blk (w.setCell ⟨g, i, none⟩ u) g t (cs.setIfInBounds i u) := by
  unfold Blk at h ⊢
  simp [World.setCell, Array.getElem?_modify, h]
theorem Blk.apart (h : Blk w g t cs) {p : Addr} (hp : g ≠ p.block) (u : Value) : Blk (w.setCell p u) g t cs := (Below.heap_setCell w p u g hp).trans h
theorem Blk.below {B : Nat} (h : Blk w g t cs) (hb : Below B w w') (hg : g < B) : Blk w' g t cs := (hb.block g hg).trans h
theorem Blk.keep (h : Blk w g t cs) (hb : Below w.heap.size w w') : Blk w' g t cs := h.below hb h.lt
theorem Blk.grown {row : Option Nat} (h : Blk w g t cs) (hb : w.grownBy w' row) (hg : some g ≠ row) : Blk w' g t cs := (hb.block g h.lt hg).trans h
theorem Blk.other {g' : Nat} {t' : TypeId} {cs' : Array Value} (h : Blk w g t cs) (h' : Blk w g' t' cs') (hne : t ≠ t') : g ≠ g' := by
  rintro rfl
  unfold Blk at h h'
  rw [h] at h'
  injection h' with h'
  injection h' with _ ht
  exact hne ht
theorem own_other {base : Nat} {e : TypeId} {size n : Nat} {v : Value} {xs : List Value} (h : w.ownsRow base e size v n xs) (hg : Blk w g t cs) (hne : e ≠ t) : v.ownBlock ≠ some g := by
  rcases h.2 with ⟨rfl, _⟩ | ⟨g', cap, cur, rfl, _, hh, _⟩
  · simp [Value.ownBlock]
  · intro he
    have hgg : g' = g := by simpa [Value.ownBlock] using he
    subst hgg
    exact Blk.other (t := e) hh hg hne rfl
theorem own_slice {base : Nat} {e : TypeId} {size n : Nat} {v : Value} {xs : List Value} (h : w.ownsRow base e size v n xs) : ∃ A c, v = .slice A n c := by
  rcases h.2 with ⟨rfl, rfl⟩ | ⟨g', cap, cur, rfl, _⟩
  · exact ⟨_, _, rfl⟩
  · exact ⟨_, _, rfl⟩
theorem own_base {base : Nat} {e : TypeId} {size n k : Nat} {v : Value} {xs : List Value} (h : w.ownsRow base e size v n xs) (hk : v.ownBlock = some k) : base ≤ k := by
  rcases h.2 with ⟨rfl, _⟩ | ⟨g', cap, cur, rfl, hg, _⟩
  · simp [Value.ownBlock] at hk
  · have hgg : g' = k := by simpa [Value.ownBlock] using hk
    omega
theorem own_keep {base : Nat} {e : TypeId} {size n : Nat} {v : Value} {xs : List Value} (h : w.ownsRow base e size v n xs) (hb : Below w.heap.size w w') : w'.ownsRow base e size v n xs := by
  rcases h with ⟨h1, h2⟩
  refine ⟨h1, ?_⟩
  rcases h2 with h2 | ⟨g', cap, cur, hv, hg, hh, hr⟩
  · exact .inl h2
  · exact .inr ⟨g', cap, cur, hv, hg, (hb.block g' (lt_of_block hh)).trans hh, hr⟩
end

/-- the cells of pairs -/
def pc (xs : List (Int × Int)) : List Value := xs.flatMap fun p => [.int .i64 p.1, .int .i64 p.2]
theorem pc_append (xs ys : List (Int × Int)) : pc (xs ++ ys) = pc xs ++ pc ys := by simp [pc]

/-- WHAT EDGES HOLDS: its answer so far, the fabric, and the closure 'join' -/
structure EW (w0 w : World) (B A J : Nat) (W H T : Int) (xs : List (Int × Int)) : Prop where
  below : Below w0.heap.size w0 w
  hB : w0.heap.size ≤ B
  hA : w0.heap.size ≤ A
  hJ : w0.heap.size ≤ J
  out : ∃ v, Blk w B 35 #[v] ∧ w.ownsRow w0.heap.size 39 2 v xs.length (pc xs)
  arch : Blk w A 23 #[.int .i64 W, .int .i64 H, .int .i64 T]
  join : Blk w J 65 #[.func (.func 49) #[] #[.pointer (some ⟨B, 0, none⟩)]]

theorem EW.keep {w0 w w' : World} {B A J : Nat} {W H T : Int} {xs : List (Int × Int)} (h : EW w0 w B A J W H T xs) (hb : Below w.heap.size w w') : EW w0 w' B A J W H T xs := by
  obtain ⟨v, h1, h2⟩ := h.out
  exact ⟨below_then h.below hb, h.hB, h.hA, h.hJ, ⟨v, h1.keep hb, own_keep h2 hb⟩, h.arch.keep hb, h.join.keep hb⟩

/-- blocks of other types than the answer's own stay as they are -/
def Keeps (w w' : World) : Prop := w.heap.size ≤ w'.heap.size ∧ ∀ g t cs, Blk w g t cs → t ≠ 35 → t ≠ 39 → Blk w' g t cs
theorem Keeps.refl (w : World) : Keeps w w := ⟨Nat.le_refl _, fun _ _ _ h _ _ => h⟩
theorem Keeps.trans {a b c : World} (h : Keeps a b) (k : Keeps b c) : Keeps a c := ⟨Nat.le_trans h.1 k.1, fun g t cs hb h1 h2 => k.2 g t cs (h.2 g t cs hb h1 h2) h1 h2⟩
theorem Keeps.of_below {w w' : World} (h : Below w.heap.size w w') : Keeps w w' := ⟨h.size, fun _ _ _ hb _ _ => hb.keep h⟩

theorem pair_info : (Try.prog.info? 39).map (fun i => (i.zero, i.size, i.bytes)) = some (some (.agg #[.int .i64 0, .int .i64 0]), 2, 16) := by kernel_rfl

/-- the lesser and the greater of two, as Go's own builtins tell -/
def lo (m n : Int) : Int := if n < m then n else m
def hi (m n : Int) : Int := if n > m then n else m

set_option maxRecDepth 100000 in
set_option maxHeartbeats 1000000 in
theorem join_any (w0 w : World) (B A J : Nat) (W H T m n : Int) (xs : List (Int × Int)) (hx : EW w0 w B A J W H T xs) (hlen : xs.length ≤ 100000000) :
    Calls Try.prog 49 #[.int .i64 m, .int .i64 n, .pointer (some ⟨B, 0, none⟩)] w fun e w' => e = .returned (.tuple #[]) ∧ EW w0 w' B A J W H T (xs ++ [(lo m n, hi m n)]) ∧ Keeps w w' := by
  obtain ⟨v, hv1, hv2⟩ := hx.out
  obtain ⟨AA, c, rfl⟩ := own_slice hv2
  obtain ⟨i0, hi0, hz0, hz1, hz2⟩ := info_parts pair_info
  obtain ⟨a, ha⟩ : ∃ a, (if n < m then n else m) = a := ⟨_, rfl⟩
  obtain ⟨b, hb⟩ : ∃ b, (if n > m then n else m) = b := ⟨_, rfl⟩
  have hcell : w.cell? ⟨B, 0, none⟩ = some (.slice AA xs.length c) := by rw [hv1.cell 0]; rfl
  have hfree := hv1.free 0
  have HI := Lib.hid hi0
  have HZ0 := Lib.hid hz0
  have HZ1 := Lib.hid hz1
  have HZ2 := Lib.hid hz2
  have HX := Lib.hid hx
  have HV1 := Lib.hid hv1
  have HV2 := Lib.hid hv2
  have hlt : B < w.heap.size := hv1.lt
  have hbase : w0.heap.size ≤ w.heap.size := hx.below.size
  clear hi0 hz0 hz1 hz2 hv1 hv2 hx
  go_enter Try.func49, Try.ntmps49
  go_wp2_with (at_builtin; refine wpList_append_own _ rfl (.tmp 5) (.tmp 13) 35 rfl w0.heap.size 39 i0 (.agg #[.int .i64 0, .int .i64 0]) 2 16 Try.underlying35 HI.out HZ0.out HZ1.out HZ2.out rfl (by decide) (.slice AA xs.length c) xs.length (pc xs) rfl (HV2.out.alloc _) ⟨w.heap.size, 0, none⟩ 1 1 [.int .i64 a, .int .i64 b] rfl rfl ?c1 ?c2 ?c3 ?c4 ?c5 ?_)
  case c1 =>
    intro j u hj
    rcases j with _ | _ | j
    · simp at hj; subst hj; go_simp
    · simp at hj; subst hj; go_simp
    · simp at hj
  case c2 =>
    intro u hu
    simp at hu
    rcases hu with rfl | rfl <;> rfl
  case c3 => unfold maxLen; omega
  case c4 => omega
  case c5 => simp; omega
  intro v' w1 hown1 hg1 hnil
  have HO := Lib.hid hown1
  have HG := Lib.hid hg1
  have hb1 := (HV1.out.alloc _).grown hg1 (Ne.symm (own_other HV2.out HV1.out (by decide)))
  have hc1 : w1.cell? ⟨B, 0, none⟩ = some (.slice AA xs.length c) := by rw [hb1.cell 0]; rfl
  have hf1 := hb1.free 0
  have HB1 := Lib.hid hb1
  obtain ⟨A2, c2, hv2⟩ := own_slice hown1
  clear hg1 hb1 hown1 hnil
  subst hv2
  go_wp2
  go_end0
  refine ⟨rfl, ?_⟩
  have hx := HX.out
  have hown2 : (w1.setCell ⟨B, 0, none⟩ (.slice A2 (xs.length + 1) c2)).ownsRow w0.heap.size 39 2 (.slice A2 (xs.length + 1) c2) (xs ++ [(lo m n, hi m n)]).length (pc (xs ++ [(lo m n, hi m n)])) := by
    have h := ownsRow_setCell_other HO.out (a := ⟨B, 0, none⟩) (own_other HO.out HB1.out (by decide)) (.slice A2 (xs.length + 1) c2)
    have e1 : (xs ++ [(lo m n, hi m n)]).length = xs.length + 1 := by simp
    have e2 : pc (xs ++ [(lo m n, hi m n)]) = pc xs ++ [.int .i64 a, .int .i64 b] := by rw [pc_append]; simp only [pc, List.flatMap_cons, List.flatMap_nil, List.append_nil, lo, hi, ha, hb]
    rw [e1, e2]
    exact h
  refine ⟨⟨((hx.below.alloc hbase _).grown HG.out (by simp; omega) (fun k hk => own_base HV2.out hk)).setCell (p := ⟨B, 0, none⟩) hx.hB _, hx.hB, hx.hA, hx.hJ, ⟨_, HB1.out.put 0 _, hown2⟩, ?_, ?_⟩, ?_, ?_⟩
  · exact ((hx.arch.alloc _).grown HG.out (Ne.symm (own_other HV2.out hx.arch (by decide)))).apart (Blk.other hx.arch HV1.out (by decide)) _
  · exact ((hx.join.alloc _).grown HG.out (Ne.symm (own_other HV2.out hx.join (by decide)))).apart (Blk.other hx.join HV1.out (by decide)) _
  · have := HG.out.size
    simp [World.setCell] at this ⊢
    omega
  · exact fun g t cs hb h40 h43 => ((hb.alloc _).grown HG.out (Ne.symm (own_other HV2.out hb (Ne.symm h43)))).apart (Blk.other hb HV1.out h40) _
end Go.Proofs.Ytakccepilbmmlaa
