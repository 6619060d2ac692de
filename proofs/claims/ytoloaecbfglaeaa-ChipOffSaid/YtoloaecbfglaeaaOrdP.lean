/- Which block waits for which: plainly. -/
import Derived.Test.YtoloaecbfglaeaaOrdM
namespace Go.Proofs.Ytoloaecbfglaeaa
open Go.RowKit Topo
set_option linter.unusedVariables false
set_option linter.unusedSimpArgs false

def ffAt (bs : List BL) (k : Nat) : Bool := match bs[k]? with | some b => b.ff | none => true
def inL (bs : List BL) (k : Nat) : List Int := match bs[k]? with | some b => b.l | none => []
theorem ffAt_lt {bs : List BL} {k : Nat} (h : ffAt bs k = false) : k < bs.length := by
  unfold ffAt at h
  by_cases hk : k < bs.length
  · exact hk
  · rw [List.getElem?_eq_none (by omega)] at h; cases h
theorem ffAt_get {bs : List BL} {k : Nat} (h : k < bs.length) : ffAt bs k = bs[k].ff := by unfold ffAt; rw [List.getElem?_eq_getElem h]
theorem inL_get {bs : List BL} {k : Nat} (h : k < bs.length) : inL bs k = bs[k].l := by unfold inL; rw [List.getElem?_eq_getElem h]
def edOf (I : Int) (bs : List BL) (i : Nat) (x : Int) : List (Nat × Nat) := if 0 ≤ x - I ∧ ffAt bs (x - I).toNat = false then [((x - I).toNat, i)] else []
def edB (I : Int) (bs : List BL) (i : Nat) (l : List Int) : List (Nat × Nat) := l.flatMap (edOf I bs i)
def edTo (I : Int) (bs : List BL) : Nat → List (Nat × Nat)
  | 0 => []
  | i + 1 => edTo I bs i ++ (if ffAt bs i = true then [] else edB I bs i (inL bs i))
def PK.E (P : PK) : List (Nat × Nat) := edTo P.I P.bs P.bs.length
def PK.S (P : PK) (k : Nat) : Prop := ffAt P.bs k = false
instance (P : PK) : DecidablePred P.S := fun k => by unfold PK.S; infer_instance
theorem PK.S_lt {P : PK} {k : Nat} (h : P.S k) : k < P.bs.length := ffAt_lt h
theorem edB_snd {I : Int} {bs : List BL} {i : Nat} {l : List Int} : ∀ e ∈ edB I bs i l, e.2 = i := by
  intro e he
  obtain ⟨x, -, hx⟩ := List.mem_flatMap.1 he
  unfold edOf at hx
  split at hx
  · rw [List.mem_singleton.1 hx]
  · cases hx
theorem edB_fst {I : Int} {bs : List BL} {i : Nat} {l : List Int} : ∀ e ∈ edB I bs i l, ffAt bs e.1 = false := by
  intro e he
  obtain ⟨x, -, hx⟩ := List.mem_flatMap.1 he
  unfold edOf at hx
  split at hx
  · next h => rw [List.mem_singleton.1 hx]; exact h.2
  · cases hx
theorem edTo_snd {I : Int} {bs : List BL} : ∀ (k : Nat), ∀ e ∈ edTo I bs k, e.2 < k ∧ ffAt bs e.2 = false ∧ ffAt bs e.1 = false
  | 0 => fun e he => by cases he
  | k + 1 => fun e he => by
    rcases List.mem_append.1 he with h | h
    · obtain ⟨h1, h2⟩ := edTo_snd k e h
      exact ⟨by omega, h2⟩
    · by_cases hf : ffAt bs k = true
      · rw [if_pos hf] at h; cases h
      · rw [if_neg hf] at h
        have := edB_snd e h
        exact ⟨by omega, by rw [this]; simpa using hf, edB_fst e h⟩
/-- all that is known of so many edges -/
structure Ed (N : Nat) (bs : List BL) (i : Nat) (E : List (Nat × Nat)) (Wt : List Nat) (Bs : List SN) (L : List Nat) : Prop where
  wt : ∀ b, b < N → Wt.getD b 0 = cnt E [] b
  rows : ∀ k b, Bs[k]? = some b → b.2.2 = beh E k
  nd : L.Nodup
  rd : ∀ b, b ∈ L ↔ b < i ∧ ffAt bs b = false ∧ cnt E [] b = 0
  hi : ∀ b, i < b → cnt E [] b = 0
theorem Ed.start (N : Nat) (bs : List BL) : Ed N bs 0 [] (List.replicate N 0) (List.replicate N (none, 0, [])) [] := by
  refine ⟨fun b hb => ?_, fun k b hk => ?_, List.nodup_nil, fun b => ?_, fun b _ => rfl⟩
  · simp [List.getD_eq_getElem?_getD, hb, cnt]
  · have := (List.mem_replicate.1 (List.mem_of_getElem? hk)).2
    rw [this]; rfl
  · simp
/-- an edge more -/
theorem Ed.edge {N i k : Nat} {bs : List BL} {E : List (Nat × Nat)} {Wt : List Nat} {Bs : List SN} {L : List Nat} (h : Ed N bs i E Wt Bs L) (hN : Wt.length = N) (hi : i < N) {v : Nat} (hv : v = cnt E [] i + 1) {b b' : SN} (hb : Bs[k]? = some b) (hb' : b'.2.2 = b.2.2 ++ [i]) :
    Ed N bs i (E ++ [(k, i)]) (Wt.set i v) (Bs.set k b') L := by
  refine ⟨fun j hj => ?_, fun j d hj => ?_, h.nd, fun j => ?_, fun j hj => ?_⟩
  · rw [getD_setN Wt i j (by omega), cnt_snoc]
    by_cases e : i = j
    · subst e; rw [if_pos rfl, if_pos rfl, hv]
    · rw [if_neg e, if_neg (fun x => e x.symm)]; exact h.wt j hj
  · rw [beh_snoc]
    rw [List.getElem?_set] at hj
    by_cases e : k = j
    · subst e
      rw [if_pos rfl, if_pos (List.getElem?_eq_some_iff.1 hb).1] at hj
      obtain rfl := Option.some.inj hj
      rw [if_pos rfl, hb', h.rows k b hb]
    · rw [if_neg e] at hj
      rw [if_neg (fun x => e x.symm)]
      exact h.rows j d hj
  · rw [cnt_snoc]
    constructor
    · intro hm
      obtain ⟨h1, h2, h3⟩ := (h.rd j).1 hm
      exact ⟨h1, h2, by rw [if_neg (by omega)]; exact h3⟩
    · rintro ⟨h1, h2, h3⟩
      rw [if_neg (by omega)] at h3
      exact (h.rd j).2 ⟨h1, h2, h3⟩
  · rw [cnt_snoc, if_neg (by omega)]
    exact h.hi j hj
/-- on to the next block -/
theorem Ed.skip {N i : Nat} {bs : List BL} {E : List (Nat × Nat)} {Wt : List Nat} {Bs : List SN} {L : List Nat} (h : Ed N bs i E Wt Bs L) (hf : ffAt bs i = true ∨ cnt E [] i ≠ 0) : Ed N bs (i + 1) E Wt Bs L := by
  refine ⟨h.wt, h.rows, h.nd, fun b => ?_, fun b hb => h.hi b (by omega)⟩
  rw [h.rd b]
  constructor
  · rintro ⟨h1, h2⟩; exact ⟨by omega, h2⟩
  · rintro ⟨h1, h2, h3⟩
    refine ⟨?_, h2, h3⟩
    have : b ≠ i := fun e => by
      subst e
      rcases hf with hf | hf
      · rw [hf] at h2; cases h2
      · exact hf h3
    omega
theorem Ed.ready {N i : Nat} {bs : List BL} {E : List (Nat × Nat)} {Wt : List Nat} {Bs : List SN} {L L' : List Nat} (h : Ed N bs i E Wt Bs L) (hf : ffAt bs i = false) (hz : cnt E [] i = 0) (hp : L'.Perm (L ++ [i])) : Ed N bs (i + 1) E Wt Bs L' := by
  refine ⟨h.wt, h.rows, ?_, fun b => ?_, fun b hb => h.hi b (by omega)⟩
  · refine (hp.nodup_iff).2 ?_
    rw [List.nodup_append]
    refine ⟨h.nd, by simp, fun x hx y hy e => ?_⟩
    rw [List.mem_singleton.1 hy] at e
    have := ((h.rd x).1 hx).1
    omega
  · rw [hp.mem_iff, List.mem_append, h.rd b, List.mem_singleton]
    constructor
    · rintro (⟨h1, h2⟩ | rfl)
      · exact ⟨by omega, h2⟩
      · exact ⟨by omega, hf, hz⟩
    · rintro ⟨h1, h2, h3⟩
      by_cases e : b = i
      · exact .inr e
      · exact .inl ⟨by omega, h2, h3⟩
theorem Ed.st {P : PK} {Wt : List Nat} {Bs : List SN} {L : List Nat} (h : Ed P.bs.length P.bs P.bs.length P.E Wt Bs L) (hl : Wt.length = P.bs.length) : St P.E P.S P.bs.length [] L Wt [] := by
  refine St.init hl h.nd (fun b => ?_) (fun b hb => h.wt b (PK.S_lt hb))
  rw [h.rd b]
  constructor
  · rintro ⟨h1, h2, h3⟩; exact ⟨h2, by rw [h.wt b h1]; exact h3⟩
  · rintro ⟨h1, h2⟩
    have hb := PK.S_lt h1
    exact ⟨hb, h1, by rw [← h.wt b hb]; exact h2⟩
/-- how many are at once -/
def manyTo (bs : List BL) (k : Nat) : Nat := ((List.range k).filter fun b => decide (ffAt bs b = false)).length
theorem manyTo_next (bs : List BL) (k : Nat) : manyTo bs (k + 1) = manyTo bs k + if ffAt bs k = true then 0 else 1 := by
  unfold manyTo
  rw [List.range_succ, List.filter_append, List.length_append]
  cases h : ffAt bs k <;> simp [h]
theorem manyTo_le (bs : List BL) (k : Nat) : manyTo bs k ≤ k := by
  unfold manyTo
  exact Nat.le_trans (List.length_filter_le _ _) (by simp)
theorem beh_S {P : PK} {i k : Nat} (h : k ∈ beh P.E i) : P.S k := by
  have := edTo_snd _ _ (mem_beh.1 h)
  exact this.2.1
theorem St.len_le {P : PK} {out ready waits rest : List Nat} (h : St P.E P.S P.bs.length out ready waits rest) : (out ++ ready).length ≤ P.bs.length := by
  have := sub_len (m := List.range P.bs.length) h.nd fun x hx => by
    rcases List.mem_append.1 hx with hx | hx
    · exact List.mem_range.2 (PK.S_lt (h.part.mem x hx))
    · exact List.mem_range.2 (PK.S_lt (h.rd x hx).1)
  simpa using this
theorem order_all {P : PK} {out waits : List Nat} (h : St P.E P.S P.bs.length out [] waits []) (hl : ¬ out.length < manyTo P.bs P.bs.length) : All (depE P.E) P.S out := by
  refine h.part.all_of_len (n := P.bs.length) (fun b hb => PK.S_lt hb) ?_
  have h1 : out.length ≤ manyTo P.bs P.bs.length := sub_len h.part.nodup fun x hx => List.mem_filter.2 ⟨List.mem_range.2 (PK.S_lt (h.part.mem x hx)), decide_eq_true (h.part.mem x hx)⟩
  have e : ((List.range P.bs.length).filter fun b => decide (P.S b)).length = manyTo P.bs P.bs.length := rfl
  omega
theorem order_none {P : PK} {out waits : List Nat} (h : St P.E P.S P.bs.length out [] waits []) (hl : out.length < manyTo P.bs P.bs.length) (m : List Nat) : ¬ All (depE P.E) P.S m := fun hm => by
  have := (h.done hm).len (n := P.bs.length) (fun b hb => PK.S_lt hb)
  unfold manyTo at hl
  have e : ((List.range P.bs.length).filter fun b => decide (P.S b)) = ((List.range P.bs.length).filter fun b => decide (ffAt P.bs b = false)) := rfl
  rw [e] at this
  omega
end Go.Proofs.Ytoloaecbfglaeaa
