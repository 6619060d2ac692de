/- All cuts of gates in memory, while they are made. -/
import Derived.Test.YtkhlllbceceikaaDoorBothP
import Derived.Maps.AppendAt
namespace Go.Proofs.YtkhlllbceceikaaDoor
open Go.RowKit
set_option linter.unusedVariables false
set_option linter.unusedSimpArgs false
/-- the append of one element's cells behind a row of one's own: as an equation -/
theorem app_run (ts te ty : TypeId) (hts : Tryd.prog.underlying ts = some (.slice te)) (z : Value) (sz bytes : Nat) (hinfo : (Tryd.prog.info? te).map (fun i => (i.zero, i.size, i.bytes)) = some (some z, sz, bytes)) (hzs : z.cells.size = sz) (hsz : 0 < sz) (hby : bytes ≤ 100000)
    {W : World} (base : Nat) (A : Option Addr) (k c : Nat) (L : List Value) (O : W.ownsRow base te sz (.slice A k c) k L)
    (ad : Addr) (d : Nat) (M : List Value) (hr : Rd W sz (some ad) 1 d M) (h1 : ∀ u ∈ M, u.oneCell' = true) (hk : k + 1 ≤ 100000000) (hb : base ≤ W.heap.size) :
    ∃ A' c' w', (Builtin.append_ #[ts, ts] ty #[.slice A k c, .slice (some ad) 1 d]).run Tryd.prog W = .ok (.slice A' (k + 1) c') w' ∧ w'.ownsRow base te sz (.slice A' (k + 1) c') (k + 1) (L ++ M) ∧ W.grownBy w' (blkOf A) ∧ (blkOf A' = blkOf A ∨ blkOf A' = some W.heap.size) := by
  obtain ⟨i0, hi0, hz0, hz1, hz2⟩ := info_parts hinfo
  obtain ⟨v', w', hrun, h2, h3, -, h5⟩ := run_append_own_at (P := Tryd.prog) W base ts ty te i0 z sz bytes hts hi0 hz0 hz1 hz2 hzs hsz (.slice A k c) k L O ad 1 d M hr.len (fun j u hj => by
    obtain ⟨a', e, -, hc⟩ := hr.read j u hj
    obtain rfl := Option.some.inj e
    exact hc) h1 (by unfold maxLen; omega) (by have := Nat.mul_le_mul hk hby; omega) hb
  obtain ⟨A', c', rfl⟩ := own_slice h2
  rw [own_blk] at h3 h5
  rw [own_blk] at h5
  exact ⟨A', c', w', hrun, h2, h3, h5⟩
section
variable {ops : Array Oper} {rest : List Oper} {o : Oper} {a : Act} {Q : Exit → Act → World → Prop}
theorem wpList_app_at (hgd : o.guard = none) (s x : Operand) (ts te : TypeId) (ho : o.op = .call { callee := .builtin .append, args := #[s, x], argTypes := #[ts, ts] })
    (hts : Tryd.prog.underlying ts = some (.slice te)) (z : Value) (sz bytes : Nat) (hinfo : (Tryd.prog.info? te).map (fun i => (i.zero, i.size, i.bytes)) = some (some z, sz, bytes)) (hzs : z.cells.size = sz) (hsz : 0 < sz) (hby : bytes ≤ 100000)
    {W : World} (base : Nat) (A : Option Addr) (k c : Nat) (L : List Value) (hs : a.eval s = .slice A k c) (O : W.ownsRow base te sz (.slice A k c) k L)
    (ad : Addr) (d : Nat) (M : List Value) (hx : a.eval x = .slice (some ad) 1 d) (hr : Rd W sz (some ad) 1 d M) (h1 : ∀ u ∈ M, u.oneCell' = true) (hk : k + 1 ≤ 100000000) (hb : base ≤ W.heap.size)
    (h : ∀ A' c' w', w'.ownsRow base te sz (.slice A' (k + 1) c') (k + 1) (L ++ M) → W.grownBy w' (blkOf A) → (blkOf A' = blkOf A ∨ blkOf A' = some W.heap.size) → wpList Tryd.prog ops Q rest (a.put o.dst (.slice A' (k + 1) c')) w') :
    wpList Tryd.prog ops Q (o :: rest) a W := by
  refine wpList_plain hgd fun K hK => ?_
  obtain ⟨A', c', w', hr', h2, h3, h4⟩ := app_run ts te o.type hts z sz bytes hinfo hzs hsz hby base A k c L O ad d M hr h1 hk hb
  unfold Oper.wp execOp
  simp only [ho, resolve, invoke, builtin, Sem.run_bind, Sem.run_pure, Result.andThen_ok, List.map_toArray, List.map_cons, List.map_nil, hs, hx, hr']
  exact hK _ _ (h A' c' w' h2 h3 h4)
end
theorem cut_info : (Tryd.prog.info? 34).map (fun i => (i.zero, i.size, i.bytes)) = some (some (.agg #[.slice none 0 0, .int .u64 0]), 2, 32) := by kernel_rfl
theorem cuts_info : (Tryd.prog.info? 47).map (fun i => (i.zero, i.size, i.bytes)) = some (some (.slice none 0 0), 1, 24) := by kernel_rfl
/-- a row of cuts: where it lies -/
abbrev CR : Type := Option Addr × Nat × List CT
def crv (r : CR) : Value := .slice r.1 r.2.2.length r.2.1
def pcs (cs : List CT) : List PC := cs.map fun c => (c.1.2.2, c.2)
def plainR (rs : List CR) : List (List PC) := rs.map fun r => pcs r.2.2
theorem plainR_len (rs : List CR) : (plainR rs).length = rs.length := by simp [plainR]
theorem plainR_at {rs : List CR} {j : Nat} (h : j < rs.length) : (plainR rs).getD j [] = pcs rs[j].2.2 := by
  rw [List.getD_eq_getElem?_getD, plainR, List.getElem?_map, List.getElem?_eq_getElem h]; rfl
theorem plainR_snoc (rs : List CR) (r : CR) : plainR (rs ++ [r]) = plainR rs ++ [pcs r.2.2] := by simp [plainR]
theorem pcs_lvs (cs : List CT) : (pcs cs).map (·.1) = lvs cs := by simp [pcs, lvs]
theorem crv_one (rs : List CR) : ∀ u ∈ rs.map crv, u.oneCell' = true := by
  intro u hu
  obtain ⟨x, -, rfl⟩ := List.mem_map.1 hu
  rfl
/-- the leaf does not lie in such a block -/
def Off (A : Option Addr) (l : SL) : Prop := ∀ g, blkOf l.1 = some g → blkOf A ≠ some g
structure OwnR (base : Nat) (w : World) (r : CR) : Prop where
  row : w.ownsRow base 34 2 (crv r) r.2.2.length (cutC r.2.2)
  all : ∀ c ∈ r.2.2, OwnL base w c.1
theorem OwnR.in_ {base : Nat} {w : World} {r : CR} (h : OwnR base w r) : CutsIn w r.1 r.2.1 r.2.2 := ⟨Rd.of_own h.row, fun c hc => Rd.of_own (h.all c hc)⟩
theorem OwnR.later {base : Nat} {w w' : World} {r : CR} (h : OwnR base w r) (hb : Below w.heap.size w w') : OwnR base w' r := ⟨own_keep h.row hb, fun c hc => (h.all c hc).later hb⟩
/-- what is of another kind stays -/
theorem own_grown {w w' : World} {b b' s s' n n' : Nat} {e e' : TypeId} {v : Value} {A : Option Addr} {k c : Nat} {xs xs' : List Value} (h : w.ownsRow b e s v n xs) (ho : w.ownsRow b' e' s' (.slice A k c) n' xs') (hne : e' ≠ e) (hg : w.grownBy w' (blkOf A)) : w'.ownsRow b e s v n xs := by
  refine h.kept hg ?_
  cases hl : v.ownBlock with
  | none => exact .inl rfl
  | some gl => exact .inr (fun e1 => own_types ho h hne (by rw [own_blk]; exact e1.symm) hl)
theorem OwnL.off {base : Nat} {w w' : World} {l : SL} (h : OwnL base w l) {A : Option Addr} (ho : Off A l) (hg : w.grownBy w' (blkOf A)) : OwnL base w' l := by
  refine World.ownsRow.kept h hg ?_
  cases hl : (slv l).ownBlock with
  | none => exact .inl rfl
  | some gl => exact .inr (fun e1 => by
      rw [show (slv l).ownBlock = blkOf l.1 from own_blk _ _ _] at hl
      exact ho gl hl e1.symm)
theorem OwnL.lt {base : Nat} {w : World} {l : SL} (h : OwnL base w l) {g : Nat} (hg : blkOf l.1 = some g) : g < w.heap.size := by
  obtain ⟨cs, hb⟩ := own_int h (g := g) (by rw [show (slv l).ownBlock = blkOf l.1 from own_blk _ _ _]; exact hg)
  exact hb.lt
/-- all that is told so far -/
structure AllM (base : Nat) (w : World) (AO : Option Addr) (cO : Nat) (rs : List CR) (AD : Option Addr) (cD : Nat) (d : List Int) : Prop where
  out : w.ownsRow base 47 1 (.slice AO rs.length cO) rs.length (rs.map crv)
  row : ∀ r ∈ rs, OwnR base w r ∧ ∀ c ∈ r.2.2, Off AD c.1
  dep : w.ownsRow base 3 1 (.slice AD d.length cD) d.length (ints d)
theorem AllM.cell {base : Nat} {w : World} {AO : Option Addr} {cO : Nat} {rs : List CR} {AD : Option Addr} {cD : Nat} {d : List Int} (h : AllM base w AO cO rs AD cD d) (hp : 0 < rs.length) : ∃ g, AO = some ⟨g, 0, none⟩ ∧ ∀ j (hj : j < rs.length), w.cell? ⟨g, j, none⟩ = some (crv rs[j]) := by
  obtain ⟨g, cap, hv, _, _⟩ := h.out.form hp
  have hA : AO = some ⟨g, 0, none⟩ := by injection hv
  subst hA
  refine ⟨g, rfl, fun j hj => ?_⟩
  have := h.out.cells (g := g) rfl j (crv rs[j]) (by rw [List.getElem?_map, List.getElem?_eq_getElem hj]; rfl)
  rw [Addr.add_lit] at this
  simpa using this
theorem AllM.keep {base : Nat} {w w' : World} {AO : Option Addr} {cO : Nat} {rs : List CR} {AD : Option Addr} {cD : Nat} {d : List Int} (h : AllM base w AO cO rs AD cD d) (hb : Below w.heap.size w w') : AllM base w' AO cO rs AD cD d :=
  ⟨own_keep h.out hb, fun r hr => ⟨(h.row r hr).1.later hb, (h.row r hr).2⟩, own_keep h.dep hb⟩
theorem AllM.putOut {base : Nat} {w w' : World} {AO AO' : Option Addr} {cO cO' : Nat} {rs : List CR} {AD : Option Addr} {cD : Nat} {d : List Int} (h : AllM base w AO cO rs AD cD d) {r : CR} (hr : OwnR base w r) (hf : ∀ c ∈ r.2.2, Off AD c.1)
    (ho : w'.ownsRow base 47 1 (.slice AO' (rs.length + 1) cO') (rs.length + 1) (rs.map crv ++ [crv r])) (hg : w.grownBy w' (blkOf AO)) : AllM base w' AO' cO' (rs ++ [r]) AD cD d := by
  refine ⟨by simpa using ho, fun x hx => ?_, own_grown h.dep h.out (by decide) hg⟩
  have hk : ∀ x : CR, OwnR base w x → OwnR base w' x := fun x hx => ⟨own_grown hx.row h.out (by decide) hg, fun c hc => own_grown (hx.all c hc) h.out (by decide) hg⟩
  rcases List.mem_append.1 hx with h1 | h1
  · exact ⟨hk x (h.row x h1).1, (h.row x h1).2⟩
  · rw [List.mem_singleton] at h1; subst h1; exact ⟨hk _ hr, hf⟩
theorem AllM.putDep {base : Nat} {w w' : World} {AO : Option Addr} {cO : Nat} {rs : List CR} {AD AD' : Option Addr} {cD cD' : Nat} {d : List Int} (h : AllM base w AO cO rs AD cD d) {y : Int}
    (ho : w'.ownsRow base 3 1 (.slice AD' (d.length + 1) cD') (d.length + 1) (ints d ++ [.int .i64 y])) (hg : w.grownBy w' (blkOf AD)) (hat : blkOf AD' = blkOf AD ∨ blkOf AD' = some w.heap.size) : AllM base w' AO cO rs AD' cD' (d ++ [y]) := by
  refine ⟨own_grown h.out h.dep (by decide) hg, fun x hx => ⟨⟨own_grown (h.row x hx).1.row h.dep (by decide) hg, fun c hc => ((h.row x hx).1.all c hc).off ((h.row x hx).2 c hc) hg⟩, fun c hc g hgl he => ?_⟩, ?_⟩
  · rcases hat with e | e
    · exact (h.row x hx).2 c hc g hgl (e.symm.trans he)
    · rw [e] at he
      have := ((h.row x hx).1.all c hc).lt hgl
      cases he
      omega
  · rw [ints_append]
    simpa [ints] using ho
/-- a new leaf is off what was there -/
theorem off_new {w : World} {base n c : Nat} {AD : Option Addr} {d : List Int} (h : w.ownsRow base 3 1 (.slice AD n c) n (ints d)) {g : Nat} (hg : w.heap.size ≤ g) (k : Nat) (l : List Int) : Off AD (some ⟨g, 0, none⟩, k, l) := by
  intro g' hg' he
  have e : g = g' := Option.some.inj hg'
  obtain ⟨cs, hb⟩ := own_int h (g := g') (by rw [own_blk]; exact he)
  have := hb.lt
  omega
theorem blk_made1 (w : World) (o : Obj) (t : TypeId) (cs : Array Value) : Blk ((w.alloc o).alloc (.cells cs t)) (w.heap.size + 1) t cs := by
  have h := Blk.made (w.alloc o) t cs
  rw [World.size_alloc] at h
  exact h
theorem blk_made2 (w : World) (o p : Obj) (t : TypeId) (cs : Array Value) : Blk (((w.alloc o).alloc p).alloc (.cells cs t)) (w.heap.size + 2) t cs := by
  have h := blk_made1 (w.alloc o) p t cs
  rw [World.size_alloc] at h
  exact h
theorem blk_made3 (w : World) (o p q : Obj) (t : TypeId) (cs : Array Value) : Blk ((((w.alloc o).alloc p).alloc q).alloc (.cells cs t)) (w.heap.size + 3) t cs := by
  have h := blk_made2 (w.alloc o) p q t cs
  rw [World.size_alloc] at h
  exact h
theorem cut_one2 (A : Option Addr) (n : Int) : ∀ u ∈ [Value.slice A 1 1, .int .u64 n], u.oneCell' = true := by
  intro u hu
  simp at hu
  rcases hu with rfl | rfl <;> rfl
theorem cut_oneN (A : Option Addr) (n c : Nat) (v : Int) : ∀ u ∈ [Value.slice A n c, .int .u64 v], u.oneCell' = true := by
  intro u hu
  simp at hu
  rcases hu with rfl | rfl <;> rfl
theorem head_con (ls : List SL) (h : 0 < ls.length) : (con ls).headD [] = ls[0].2.2 := by
  cases ls with
  | nil => simp at h
  | cons y t => rfl
theorem off_own {w w' : World} {base n c : Nat} {AD : Option Addr} {d : List Int} (h : w.ownsRow base 3 1 (.slice AD n c) n (ints d)) {l : SL} (hl : OwnL w.heap.size w' l) : Off AD l := by
  intro g hg he
  obtain ⟨cs, hb⟩ := own_int h (g := g) (by rw [own_blk]; exact he)
  have h1 := hb.lt
  have h2 := own_base hl (k := g) (by rw [show (slv l).ownBlock = blkOf l.1 from own_blk _ _ _]; exact hg)
  omega
theorem OwnR.down {base base' : Nat} {w : World} {r : CR} (h : OwnR base w r) (hb : base' ≤ base) : OwnR base' w r := ⟨own_down h.row hb, fun c hc => own_down (h.all c hc) hb⟩
theorem rd_of_blk {w : World} {g : Nat} {t : TypeId} {cs : List Value} (h : Blk w g t cs.toArray) (sz n : Nat) (hn : cs.length = n * sz) : Rd w sz (some ⟨g, 0, none⟩) n n cs := by
  refine ⟨hn, Nat.le_refl _, fun e => (by cases e), fun j u hj => ⟨⟨g, 0, none⟩, rfl, h.lt, ?_⟩⟩
  have := h.cell j
  rw [Addr.add_lit]
  simpa using this.trans (by simpa using hj)
theorem own_of_blkN {w : World} {g base : Nat} {t : TypeId} {cs : List Value} (h : Blk w g t cs.toArray) (sz n : Nat) (hn : cs.length = n * sz) (hb : base ≤ g) (hm : n ≤ 100000000) : w.ownsRow base t sz (.slice (some ⟨g, 0, none⟩) n n) n cs :=
  ⟨hn, .inr ⟨g, n, cs.toArray, rfl, hb, h, Nat.le_refl _, by unfold maxLen; omega, by simpa using hn, by simp [← hn]⟩⟩
end Go.Proofs.YtkhlllbceceikaaDoor
