/- Blocks that hang on each other, told one after the other: any order tells the same; what Kahn's way leaves. Plain lists. -/
import Derived.Test.YtoloaecbfglaeaaBase
namespace Go.Proofs.Ytoloaecbfglaeaa.Topo
set_option linter.unusedVariables false
/-- l tells some of S, each behind all on which it hangs -/
structure Part (dep : Nat → List Nat) (S : Nat → Prop) (l : List Nat) : Prop where
  nodup : l.Nodup
  mem : ∀ b ∈ l, S b
  ord : ∀ pre b post, l = pre ++ b :: post → ∀ k ∈ dep b, k ∈ pre
theorem Part.nil (dep : Nat → List Nat) (S : Nat → Prop) : Part dep S [] :=
  ⟨List.nodup_nil, fun b h => (nomatch h), fun pre b post h => by cases pre <;> cases h⟩
theorem Part.snoc {dep : Nat → List Nat} {S : Nat → Prop} {l : List Nat} (h : Part dep S l) {b : Nat} (hb : S b) (hn : b ∉ l) (hd : ∀ k ∈ dep b, k ∈ l) : Part dep S (l ++ [b]) := by
  refine ⟨?_, ?_, ?_⟩
  · rw [List.nodup_append]
    exact ⟨h.nodup, by simp, fun a ha c hc => by simp at hc; subst hc; intro e; exact hn (e ▸ ha)⟩
  · intro c hc
    rw [List.mem_append] at hc
    rcases hc with hc | hc
    · exact h.mem c hc
    · simp at hc; subst hc; exact hb
  · intro pre c post e k hk
    rcases List.append_eq_append_iff.1 e with ⟨a, e1, e2⟩ | ⟨a, e1, e2⟩
    · cases a with
      | nil => simp at e1 e2; obtain ⟨rfl, rfl⟩ := e2; subst e1; exact hd k hk
      | cons x a =>
        simp at e2
    · cases a with
      | nil => simp at e1 e2; obtain ⟨rfl, -⟩ := e2; subst e1; exact hd k hk
      | cons x a =>
        simp at e2
        obtain ⟨rfl, e2⟩ := e2
        exact h.ord pre c a e1 k hk
/-- all of S -/
structure All (dep : Nat → List Nat) (S : Nat → Prop) (l : List Nat) : Prop extends Part dep S l where
  all : ∀ b, S b → b ∈ l
theorem stuck {dep : Nat → List Nat} {S : Nat → Prop} {l m : List Nat} (hl : Part dep S l) (hs : ∀ b, S b → b ∉ l → ∃ k ∈ dep b, k ∉ l) (hm : All dep S m) : ∀ b, S b → b ∈ l := by
  have key : ∀ n, ∀ pre post, m = pre ++ post → pre.length = n → ∀ b ∈ pre, b ∈ l := by
    intro n
    induction n with
    | zero => intro pre post e h b hb; cases pre with | nil => cases hb | cons x t => simp at h
    | succ n ih =>
      intro pre post e h b hb
      rcases List.eq_nil_or_concat pre with rfl | ⟨p, x, rfl⟩
      · cases hb
      · rw [List.concat_eq_append] at e h hb
        have hp : p.length = n := by simp at h; omega
        have ihp := ih p (x :: post) (by rw [e]; simp) hp
        rw [List.mem_append] at hb
        rcases hb with hb | hb
        · exact ihp b hb
        · simp at hb; subst hb
          refine Classical.byContradiction fun hc => ?_
          have hS : S b := hm.mem b (by rw [e]; simp)
          obtain ⟨k, hk, hkl⟩ := hs b hS hc
          exact hkl (ihp k (hm.ord p b post (by rw [e]; simp) k hk))
  intro b hb
  exact key m.length m [] (by simp) rfl b (hm.all b hb)
theorem sub_len : ∀ {l m : List Nat}, l.Nodup → (∀ x ∈ l, x ∈ m) → l.length ≤ m.length
  | [], m, _, _ => Nat.zero_le _
  | x :: l, m, h, hs => by
    have hx := hs x (by simp)
    have := sub_len (l := l) (m := m.erase x) (List.nodup_cons.1 h).2 (fun y hy => (List.mem_erase_of_ne (fun e : y = x => by subst e; exact (List.nodup_cons.1 h).1 hy)).2 (hs y (by simp [hy])))
    rw [List.length_erase_of_mem hx] at this
    have : 0 < m.length := List.length_pos_of_mem hx
    simp; omega
theorem sub_all {l m : List Nat} (h : l.Nodup) (hs : ∀ x ∈ l, x ∈ m) (hl : m.length ≤ l.length) : ∀ y ∈ m, y ∈ l := by
  intro y hy
  refine Classical.byContradiction fun hc => ?_
  have := sub_len h (m := m.erase y) (fun x hx => (List.mem_erase_of_ne (fun e : x = y => by subst e; exact hc hx)).2 (hs x hx))
  rw [List.length_erase_of_mem hy] at this
  have : 0 < m.length := List.length_pos_of_mem hy
  omega
/-- as many as there are -/
theorem Part.all_of_len {dep : Nat → List Nat} {S : Nat → Prop} [DecidablePred S] {n : Nat} {l : List Nat} (h : Part dep S l) (hS : ∀ b, S b → b < n) (hl : l.length = ((List.range n).filter (fun b => decide (S b))).length) : All dep S l := by
  refine ⟨h, fun b hb => ?_⟩
  have hsub : ∀ x ∈ l, x ∈ (List.range n).filter (fun b => decide (S b)) := fun c hc => List.mem_filter.2 ⟨List.mem_range.2 (hS c (h.mem c hc)), by simpa using h.mem c hc⟩
  exact sub_all h.nodup hsub (by omega) b (List.mem_filter.2 ⟨List.mem_range.2 (hS b hb), by simpa using hb⟩)
theorem All.len {dep : Nat → List Nat} {S : Nat → Prop} [DecidablePred S] {n : Nat} {l : List Nat} (h : All dep S l) (hS : ∀ b, S b → b < n) : l.length = ((List.range n).filter (fun b => decide (S b))).length := by
  have h1 : ∀ x ∈ l, x ∈ (List.range n).filter (fun b => decide (S b)) := fun c hc => List.mem_filter.2 ⟨List.mem_range.2 (hS c (h.mem c hc)), by simpa using h.mem c hc⟩
  have h2 : ∀ x ∈ (List.range n).filter (fun b => decide (S b)), x ∈ l := fun c hc => h.all c (by simpa using (List.mem_filter.1 hc).2)
  have a := sub_len h.nodup h1
  have b := sub_len ((List.nodup_range).filter _) h2
  omega

/-- values told one after the other -/
def runL (val : Nat → List Bool → Bool) (n : Nat) (l : List Nat) (w : List Bool) : List Bool := l.foldl (fun w b => w.set (n + b) (val b w)) w
theorem runL_snoc (val : Nat → List Bool → Bool) (n : Nat) (l : List Nat) (b : Nat) (w : List Bool) : runL val n (l ++ [b]) w = (runL val n l w).set (n + b) (val b (runL val n l w)) := by simp [runL]
theorem runL_length (val : Nat → List Bool → Bool) (n : Nat) : ∀ (l : List Nat) (w : List Bool), (runL val n l w).length = w.length
  | [], w => rfl
  | b :: l, w => by show (runL val n l _).length = _; rw [runL_length val n l]; simp
theorem runL_other (val : Nat → List Bool → Bool) (n : Nat) : ∀ (l : List Nat) (w : List Bool) (j : Nat), (∀ b ∈ l, n + b ≠ j) → (runL val n l w).getD j false = w.getD j false
  | [], w, j, _ => rfl
  | b :: l, w, j, h => by
    show (runL val n l _).getD j false = _
    rw [runL_other val n l _ j (fun c hc => h c (by simp [hc]))]
    have := h b (by simp)
    simp [List.getD_eq_getElem?_getD, List.getElem?_set_ne this]
/-- each block's value is that by the values at the end -/
theorem runL_own {dep : Nat → List Nat} {S : Nat → Prop} {val : Nat → List Bool → Bool} {n N : Nat} {l : List Nat} (hl : Part dep S l) (hS : ∀ b, S b → b < N)
    (hv : ∀ b u w, S b → (∀ j, (∀ c, S c → c ∉ dep b → n + c ≠ j) → u.getD j false = w.getD j false) → val b u = val b w) (w : List Bool) (hw : n + N ≤ w.length) :
    ∀ b ∈ l, (runL val n l w).getD (n + b) false = val b (runL val n l w) := by
  have key : ∀ m, ∀ pre post, l = pre ++ post → pre.length = m → ∀ b ∈ pre, (runL val n pre w).getD (n + b) false = val b (runL val n pre w) := by
    intro m
    induction m with
    | zero => intro pre post e h b hb; cases pre with | nil => cases hb | cons x t => simp at h
    | succ m ih =>
      intro pre post e h b hb
      rcases List.eq_nil_or_concat pre with rfl | ⟨p, x, rfl⟩
      · cases hb
      · rw [List.concat_eq_append] at e h hb ⊢
        have hp : p.length = m := by simp at h; omega
        have ihp := ih p (x :: post) (by rw [e]; simp) hp
        have hx : S x := hl.mem x (by rw [e]; simp)
        have hnd : (p ++ [x]).Nodup := (List.nodup_append.1 (e ▸ hl.nodup)).1
        have hxp : x ∉ p := fun hc => (List.nodup_append.1 hnd).2.2 x hc x (by simp) rfl
        rw [runL_snoc]
        have hlen : n + x < (runL val n p w).length := by rw [runL_length]; have := hS x hx; omega
        have hself : ∀ c, S c → c ∈ p ++ [x] → x ∉ dep c := by
          intro c hc hcm hxc
          obtain ⟨q, r, hqr⟩ := List.append_of_mem hcm
          have hm := hl.ord q c (r ++ post) (by rw [e, hqr]; simp) x hxc
          have hnq : (q ++ c :: r).Nodup := hqr ▸ hnd
          -- x lies ahead of c in p ++ [x]
          have hl1 : (p ++ [x]).length = (q ++ c :: r).length := by rw [hqr]
          obtain ⟨i, hi, hxi⟩ := List.mem_iff_getElem.1 hm
          have h1 : (p ++ [x])[i]'(by rw [hl1]; simp; omega) = x := by
            have : (p ++ [x])[i]'(by rw [hl1]; simp; omega) = (q ++ c :: r)[i]'(by simp; omega) := by simp only [hqr]
            rw [this, List.getElem_append_left hi, hxi]
          by_cases hip : i < p.length
          · rw [List.getElem_append_left hip] at h1
            exact hxp (h1 ▸ List.getElem_mem hip)
          · have : (p ++ [x]).length ≤ q.length := by simp; omega
            rw [hl1] at this; simp at this; omega
        have hval : ∀ c, S c → c ∈ p ++ [x] → val c ((runL val n p w).set (n + x) (val x (runL val n p w))) = val c (runL val n p w) := by
          intro c hc hcm
          refine hv c _ _ hc fun j hj => ?_
          have hne : n + x ≠ j := hj x hx (hself c hc hcm)
          simp [List.getD_eq_getElem?_getD, List.getElem?_set_ne hne]
        rw [List.mem_append] at hb
        rcases hb with hb | hb
        · have hne : n + x ≠ n + b := fun e => hxp (by rw [show x = b by omega]; exact hb)
          rw [hval b (hl.mem b (by rw [e]; simp [hb])) (by simp [hb]), ← ihp b hb]
          simp [List.getD_eq_getElem?_getD, List.getElem?_set_ne hne]
        · simp at hb; subst hb
          rw [hval b hx (by simp)]
          simp [List.getD_eq_getElem?_getD, List.getElem?_set_self hlen]
  exact key l.length l [] (by simp) rfl
/-- any order tells the same -/
theorem runL_same {dep : Nat → List Nat} {S : Nat → Prop} {val : Nat → List Bool → Bool} {n N : Nat} {l m : List Nat} (hl : All dep S l) (hm : All dep S m) (hS : ∀ b, S b → b < N)
    (hv : ∀ b u w, S b → (∀ j, (∀ c, S c → c ∉ dep b → n + c ≠ j) → u.getD j false = w.getD j false) → val b u = val b w) (w : List Bool) (hw : n + N ≤ w.length) :
    runL val n l w = runL val n m w := by
  have hother : ∀ j, (∀ c, S c → n + c ≠ j) → (runL val n l w).getD j false = (runL val n m w).getD j false := fun j hj => by
    rw [runL_other val n l w j (fun b hb => hj b (hl.mem b hb)), runL_other val n m w j (fun b hb => hj b (hm.mem b hb))]
  have key : ∀ k, ∀ pre post, l = pre ++ post → pre.length = k → ∀ b ∈ pre, (runL val n l w).getD (n + b) false = (runL val n m w).getD (n + b) false := by
    intro k
    induction k with
    | zero => intro pre post e h b hb; cases pre with | nil => cases hb | cons x t => simp at h
    | succ k ih =>
      intro pre post e h b hb
      rcases List.eq_nil_or_concat pre with rfl | ⟨p, x, rfl⟩
      · cases hb
      · rw [List.concat_eq_append] at e h hb
        have hp : p.length = k := by simp at h; omega
        have ihp := ih p (x :: post) (by rw [e]; simp) hp
        rw [List.mem_append] at hb
        rcases hb with hb | hb
        · exact ihp b hb
        · simp at hb; subst hb
          have hb : b ∈ l := by rw [e]; simp
          have hSb := hl.mem b hb
          rw [runL_own hl.toPart hS hv w hw b hb, runL_own hm.toPart hS hv w hw b (hm.all b hSb)]
          refine hv b _ _ hSb fun j hj => ?_
          by_cases hc : ∃ c, S c ∧ n + c = j
          · obtain ⟨c, hc, rfl⟩ := hc
            by_cases hd : c ∈ dep b
            · exact ihp c (hl.ord p b post (by rw [e]; simp) c hd)
            · exact absurd rfl (hj c hc hd)
          · exact hother j fun c h1 h2 => hc ⟨c, h1, h2⟩
  apply List.ext_getElem
  · rw [runL_length, runL_length]
  · intro j h1 h2
    have e : (runL val n l w).getD j false = (runL val n m w).getD j false := by
      by_cases hc : ∃ c, S c ∧ n + c = j
      · obtain ⟨c, hc, rfl⟩ := hc
        exact key l.length l [] (by simp) rfl c (hl.all c hc)
      · exact hother j fun c h1 h2 => hc ⟨c, h1, h2⟩
    simpa [List.getD_eq_getElem?_getD, List.getElem?_eq_getElem h1, List.getElem?_eq_getElem h2] using e
end Go.Proofs.Ytoloaecbfglaeaa.Topo
namespace Go.Proofs.Ytoloaecbfglaeaa.Topo
/-- who waits for k -/
def beh (E : List (Nat × Nat)) (k : Nat) : List Nat := (E.filter (fun e => e.1 == k)).map (·.2)
/-- how many of b's there are that are not told yet -/
def cnt (E : List (Nat × Nat)) (out : List Nat) (b : Nat) : Nat := E.countP (fun e => e.2 == b && !(out.elem e.1))
def depE (E : List (Nat × Nat)) (b : Nat) : List Nat := (E.filter (fun e => e.2 == b)).map (·.1)
theorem mem_depE {E : List (Nat × Nat)} {b k : Nat} : k ∈ depE E b ↔ (k, b) ∈ E := by
  simp only [depE, List.mem_map, List.mem_filter]
  constructor
  · rintro ⟨⟨x, y⟩, ⟨h, e⟩, rfl⟩; simp at e; subst e; exact h
  · intro h; exact ⟨(k, b), ⟨h, by simp⟩, rfl⟩
theorem mem_beh {E : List (Nat × Nat)} {b k : Nat} : b ∈ beh E k ↔ (k, b) ∈ E := by
  simp only [beh, List.mem_map, List.mem_filter]
  constructor
  · rintro ⟨⟨x, y⟩, ⟨h, e⟩, rfl⟩; simp at e; subst e; exact h
  · intro h; exact ⟨(k, b), ⟨h, by simp⟩, rfl⟩
theorem beh_snoc (E : List (Nat × Nat)) (k b j : Nat) : beh (E ++ [(k, b)]) j = if j = k then beh E j ++ [b] else beh E j := by
  by_cases h : j = k
  · subst h; simp [beh]
  · simp [beh, h, Ne.symm h, List.filter_append]
theorem cnt_snoc (E : List (Nat × Nat)) (k b j : Nat) : cnt (E ++ [(k, b)]) [] j = if j = b then cnt E [] j + 1 else cnt E [] j := by
  by_cases h : j = b
  · subst h; simp [cnt, List.countP_append]
  · simp [cnt, List.countP_append, h]; intro e; exact absurd e.symm h
theorem cnt_zero {E : List (Nat × Nat)} {out : List Nat} {b : Nat} : cnt E out b = 0 ↔ ∀ k ∈ depE E b, k ∈ out := by
  simp only [cnt, List.countP_eq_zero]
  constructor
  · intro h k hk
    have := h (k, b) (mem_depE.1 hk)
    simpa using this
  · rintro h ⟨k, c⟩ he
    by_cases hc : c = b
    · subst hc
      have := h k (mem_depE.2 he)
      simp [this]
    · simp [hc]
theorem cnt_step : ∀ (E : List (Nat × Nat)) (out : List Nat) (i : Nat), i ∉ out → ∀ b, cnt E out b = cnt E (out ++ [i]) b + (beh E i).count b
  | [], out, i, _, b => by simp [cnt, beh]
  | (k, c) :: E, out, i, hi, b => by
    have ih := cnt_step E out i hi b
    simp only [cnt, beh] at ih ⊢
    rw [List.countP_cons, List.countP_cons, List.filter_cons]
    generalize E.countP (fun e => e.2 == b && !(out.elem e.1)) = A at ih ⊢
    generalize E.countP (fun e => e.2 == b && !((out ++ [i]).elem e.1)) = B at ih ⊢
    by_cases hk : k = i
    · subst hk
      have hn : out.elem k = false := by simpa using hi
      have he : (out ++ [k]).elem k = true := by simp
      by_cases hc : c = b
      · subst hc; simp only [hn, he, beq_self_eq_true, if_true, List.map_cons, List.count_cons_self, Bool.not_false, Bool.not_true, Bool.and_true, Bool.and_false, Bool.false_eq_true, if_false]; omega
      · have hb : (c == b) = false := by simpa using hc
        simp only [hn, he, hb, beq_self_eq_true, if_true, List.map_cons, List.count_cons_of_ne hc, Bool.false_and, Bool.false_eq_true, if_false]; omega
    · have he : (out ++ [i]).elem k = out.elem k := by simp [hk]
      have : (k == i) = false := by simpa using hk
      simp only [he, this, Bool.false_eq_true, if_false]
      omega
/-- the state of the work: told, ready, how many each waits for, and those behind the last told that are to be seen to -/
structure St (E : List (Nat × Nat)) (S : Nat → Prop) (N : Nat) (out ready waits rest : List Nat) : Prop where
  len : waits.length = N
  nd : (out ++ ready).Nodup
  part : Part (depE E) S out
  rd : ∀ b ∈ ready, S b ∧ waits.getD b 0 = 0
  zo : ∀ b ∈ out, waits.getD b 0 = 0
  wt : ∀ b, S b → waits.getD b 0 = cnt E out b + rest.count b
  zero : ∀ b, S b → waits.getD b 0 = 0 → b ∈ out ∨ b ∈ ready
variable {E : List (Nat × Nat)} {S : Nat → Prop} {N : Nat} {out ready waits rest : List Nat}
theorem St.perm {ready' : List Nat} (h : St E S N out ready waits rest) (p : ready'.Perm ready) : St E S N out ready' waits rest :=
  ⟨h.len, ((List.Perm.append_left out p).nodup_iff).2 h.nd, h.part, fun b hb => h.rd b (p.mem_iff.1 hb), h.zo, h.wt, fun b hb hz => (h.zero b hb hz).imp id p.mem_iff.2⟩
theorem St.pop {i : Nat} (h : St E S N out (i :: ready) waits []) : St E S N (out ++ [i]) ready waits (beh E i) ∧ S i ∧ i ∉ out := by
  have hi := h.rd i (by simp)
  have hno : i ∉ out := fun hc => (List.nodup_append.1 h.nd).2.2 i hc i (by simp) rfl
  have hw := h.wt i hi.1
  rw [hi.2] at hw
  have hc : cnt E out i = 0 := by simp at hw; omega
  refine ⟨⟨h.len, by simpa using h.nd, h.part.snoc hi.1 hno (cnt_zero.1 hc), fun b hb => h.rd b (by simp [hb]), ?_, ?_, ?_⟩, hi.1, hno⟩
  · intro b hb
    rw [List.mem_append] at hb
    rcases hb with hb | hb
    · exact h.zo b hb
    · simp at hb; subst hb; exact hi.2
  · intro b hb
    rw [h.wt b hb, cnt_step E out i hno b]; simp
  · intro b hb hz
    rcases h.zero b hb hz with x | x
    · exact .inl (by simp [x])
    · simp at x
      rcases x with rfl | x
      · exact .inl (by simp)
      · exact .inr x
theorem getD_set' {l : List Nat} {k v b : Nat} (hk : k < l.length) : (l.set k v).getD b 0 = if b = k then v else l.getD b 0 := by
  by_cases h : b = k
  · subst h; simp [List.getD_eq_getElem?_getD, List.getElem?_set_self hk]
  · rw [if_neg h]; simp [List.getD_eq_getElem?_getD, List.getElem?_set_ne (Ne.symm h)]
/-- one behind the last told: it waits for one less -/
theorem St.next {k : Nat} (h : St E S N out ready waits (k :: rest)) (hS : ∀ b, S b → b < N) (hk : S k) :
    0 < waits.getD k 0 ∧ k ∉ out ∧ k ∉ ready ∧ (waits.getD k 0 = 1 → St E S N out (k :: ready) (waits.set k 0) rest) ∧ (waits.getD k 0 ≠ 1 → St E S N out ready (waits.set k (waits.getD k 0 - 1)) rest) := by
  have hpos : 0 < waits.getD k 0 := by have := h.wt k hk; rw [List.count_cons_self] at this; omega
  have hlt : k < waits.length := by rw [h.len]; exact hS k hk
  have hno : k ∉ out := fun hc => by have := h.zo k hc; omega
  have hnr : k ∉ ready := fun hc => by have := (h.rd k hc).2; omega
  have hwt : ∀ v, v + 1 = waits.getD k 0 → ∀ b, S b → (waits.set k v).getD b 0 = cnt E out b + rest.count b := by
    intro v hv b hb
    rw [getD_set' hlt]
    have := h.wt b hb
    by_cases e : b = k
    · subst e; rw [if_pos rfl]; rw [List.count_cons_self] at this; omega
    · rw [if_neg e, this, List.count_cons_of_ne (Ne.symm e)]
  refine ⟨hpos, hno, hnr, fun h1 => ?_, fun h1 => ?_⟩
  · refine ⟨by simp [h.len], ?_, h.part, ?_, ?_, hwt 0 (by omega), ?_⟩
    · obtain ⟨a, b, c⟩ := List.nodup_append.1 h.nd
      rw [List.nodup_append]
      refine ⟨a, List.nodup_cons.2 ⟨hnr, b⟩, fun x hx y hy => ?_⟩
      simp at hy
      rcases hy with rfl | hy
      · intro e; exact hno (e ▸ hx)
      · exact c x hx y hy
    · intro b hb
      rw [getD_set' hlt]
      simp at hb
      rcases hb with rfl | hb
      · exact ⟨hk, by simp⟩
      · have := h.rd b hb
        exact ⟨this.1, by split <;> simp_all⟩
    · intro b hb
      rw [getD_set' hlt]
      have := h.zo b hb
      split <;> simp_all
    · intro b hb hz
      rw [getD_set' hlt] at hz
      by_cases e : b = k
      · subst e; exact .inr (by simp)
      · rw [if_neg e] at hz
        exact (h.zero b hb hz).imp id (fun x => by simp [x])
  · refine ⟨by simp [h.len], h.nd, h.part, ?_, ?_, hwt _ (by omega), ?_⟩
    · intro b hb
      rw [getD_set' hlt]
      have := h.rd b hb
      rw [if_neg (fun e : b = k => hnr (e ▸ hb))]
      exact this
    · intro b hb
      rw [getD_set' hlt, if_neg (fun e : b = k => hno (e ▸ hb))]
      exact h.zo b hb
    · intro b hb hz
      rw [getD_set' hlt] at hz
      by_cases e : b = k
      · subst e; rw [if_pos rfl] at hz; omega
      · rw [if_neg e] at hz
        exact h.zero b hb hz
/-- at the end: all, or there is no order of all -/
theorem St.done (h : St E S N out [] waits []) {m : List Nat} (hm : All (depE E) S m) : All (depE E) S out := by
  refine ⟨h.part, stuck h.part (fun b hb hn => ?_) hm⟩
  refine Classical.byContradiction fun hc => ?_
  have hz : waits.getD b 0 = 0 := by
    rw [h.wt b hb]
    have : cnt E out b = 0 := cnt_zero.2 fun k hk => Classical.byContradiction fun hk2 => hc ⟨k, hk, hk2⟩
    simp [this]
  rcases h.zero b hb hz with x | x
  · exact hn x
  · cases x
/-- at first -/
theorem St.init {ready waits : List Nat} (hl : waits.length = N) (hn : ready.Nodup) (hr : ∀ b, b ∈ ready ↔ S b ∧ waits.getD b 0 = 0) (hw : ∀ b, S b → waits.getD b 0 = cnt E [] b) : St E S N [] ready waits [] :=
  ⟨hl, by simpa using hn, Part.nil _ _, fun b hb => (hr b).1 hb, fun b hb => (nomatch hb), fun b hb => by rw [hw b hb]; simp, fun b hb hz => .inr ((hr b).2 ⟨hb, hz⟩)⟩
end Go.Proofs.Ytoloaecbfglaeaa.Topo
