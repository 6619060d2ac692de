/- The region of cuts.both that puts a gate's row in: what stays while its order is drawn. -/
import Derived.Test.YtkhlllbceceikaaDoorBothM
namespace Go.Proofs.YtkhlllbceceikaaDoor
open Go.RowKit
set_option linter.unusedVariables false
set_option linter.unusedSimpArgs false
/-- what stands in memory: out, depths, the row at hand, the ranked sets, the box, rows, leaves -/
structure R23 (base wo : Nat) (u : World) (OA : Option Addr) (nO cO : Nat) (CO : List Value) (AD : Option Addr) (nD cD : Nat) (CD : List Value) (AL : Option Addr) (nL cL : Nat) (CL : List Value)
    (gq n9 c9 : Nat) (K9 : List Value) (gx : Nat) (CX : Array Value) (qs : List CR) (cs : List CT) : Prop where
  oo : u.ownsRow base 47 1 (.slice OA nO cO) nO CO
  dd : u.ownsRow base 3 1 (.slice AD nD cD) nD CD
  ll : u.ownsRow wo 34 2 (.slice AL nL cL) nL CL
  kr : u.ownsRow base 105 9 (.slice (some ⟨gq, 0, none⟩) n9 c9) n9 K9
  bx : Blk u gx 26 CX
  rw_ : ∀ r ∈ qs, OwnR base u r ∧ (∀ g, blkOf r.1 = some g → g < wo) ∧ ∀ c ∈ r.2.2, Off AD c.1
  lv : ∀ c ∈ cs, OwnL wo u c.1 ∧ Off AD c.1
  sz : wo ≤ u.heap.size ∧ base ≤ wo
section
variable {base wo : Nat} {u u' : World} {OA : Option Addr} {nO cO : Nat} {CO : List Value} {AD : Option Addr} {nD cD : Nat} {CD : List Value} {AL : Option Addr} {nL cL : Nat} {CL : List Value}
    {gq n9 c9 : Nat} {K9 : List Value} {gx : Nat} {CX : Array Value} {qs : List CR} {cs : List CT}
theorem R23.later (h : R23 base wo u OA nO cO CO AD nD cD CD AL nL cL CL gq n9 c9 K9 gx CX qs cs) (hb : Below u.heap.size u u') : R23 base wo u' OA nO cO CO AD nD cD CD AL nL cL CL gq n9 c9 K9 gx CX qs cs :=
  ⟨own_keep h.oo hb, own_keep h.dd hb, own_keep h.ll hb, own_keep h.kr hb, h.bx.keep hb, fun r hr => ⟨(h.rw_ r hr).1.later hb, (h.rw_ r hr).2⟩, fun c hc => ⟨(h.lv c hc).1.later hb, (h.lv c hc).2⟩, Nat.le_trans h.sz.1 hb.size, h.sz.2⟩
theorem R23.alloc (h : R23 base wo u OA nO cO CO AD nD cD CD AL nL cL CL gq n9 c9 K9 gx CX qs cs) (o : Obj) : R23 base wo (u.alloc o) OA nO cO CO AD nD cD CD AL nL cL CL gq n9 c9 K9 gx CX qs cs := h.later (below_new _ _)
theorem blk_grown {b s n k c g : Nat} {e t : TypeId} {A : Option Addr} {xs : List Value} {cells : Array Value} (hb : Blk u g t cells) (ho : u.ownsRow b e s (.slice A k c) n xs) (hne : e ≠ t) (hg : u.grownBy u' (blkOf A)) : Blk u' g t cells :=
  hb.grown hg (fun h => own_other ho hb hne (by rw [own_blk]; exact h.symm))
theorem R23.appOut (h : R23 base wo u OA nO cO CO AD nD cD CD AL nL cL CL gq n9 c9 K9 gx CX qs cs) {OA' : Option Addr} {nO' cO' : Nat} {CO' : List Value} (ho : u'.ownsRow base 47 1 (.slice OA' nO' cO') nO' CO') (hg : u.grownBy u' (blkOf OA)) :
    R23 base wo u' OA' nO' cO' CO' AD nD cD CD AL nL cL CL gq n9 c9 K9 gx CX qs cs :=
  ⟨ho, own_grown h.dd h.oo (by decide) hg, own_grown h.ll h.oo (by decide) hg, own_grown h.kr h.oo (by decide) hg, blk_grown h.bx h.oo (by decide) hg,
    fun r hr => ⟨⟨own_grown (h.rw_ r hr).1.row h.oo (by decide) hg, fun c hc => own_grown ((h.rw_ r hr).1.all c hc) h.oo (by decide) hg⟩, (h.rw_ r hr).2⟩,
    fun c hc => ⟨own_grown (h.lv c hc).1 h.oo (by decide) hg, (h.lv c hc).2⟩, Nat.le_trans h.sz.1 hg.size, h.sz.2⟩
theorem R23.appRow (h : R23 base wo u OA nO cO CO AD nD cD CD AL nL cL CL gq n9 c9 K9 gx CX qs cs) {AL' : Option Addr} {nL' cL' : Nat} {CL' : List Value} (ho : u'.ownsRow wo 34 2 (.slice AL' nL' cL') nL' CL') (hg : u.grownBy u' (blkOf AL)) :
    R23 base wo u' OA nO cO CO AD nD cD CD AL' nL' cL' CL' gq n9 c9 K9 gx CX qs cs := by
  refine ⟨own_grown h.oo h.ll (by decide) hg, own_grown h.dd h.ll (by decide) hg, ho, own_grown h.kr h.ll (by decide) hg, blk_grown h.bx h.ll (by decide) hg, fun r hr => ⟨⟨?_, fun c hc => own_grown ((h.rw_ r hr).1.all c hc) h.ll (by decide) hg⟩, (h.rw_ r hr).2⟩,
    fun c hc => ⟨own_grown (h.lv c hc).1 h.ll (by decide) hg, (h.lv c hc).2⟩, Nat.le_trans h.sz.1 hg.size, h.sz.2⟩
  refine World.ownsRow.kept (h.rw_ r hr).1.row hg ?_
  cases hl : (crv r).ownBlock with
  | none => exact .inl rfl
  | some g =>
    refine .inr (fun e => ?_)
    have h1 := (h.rw_ r hr).2.1 g (by rw [show (crv r).ownBlock = blkOf r.1 from own_blk _ _ _] at hl; exact hl)
    have h2 := own_base h.ll (k := g) (by rw [own_blk]; exact e.symm)
    omega
theorem off_at {A A' : Option Addr} {l : SL} (ho : Off A l) (hl : OwnL base u l) (hat : blkOf A' = blkOf A ∨ blkOf A' = some u.heap.size) : Off A' l := fun g hg he => by
  rcases hat with e | e
  · exact ho g hg (e.symm.trans he)
  · have := hl.lt hg
    rw [e] at he
    cases he
    omega
theorem R23.appDep (h : R23 base wo u OA nO cO CO AD nD cD CD AL nL cL CL gq n9 c9 K9 gx CX qs cs) {AD' : Option Addr} {nD' cD' : Nat} {CD' : List Value} (ho : u'.ownsRow base 3 1 (.slice AD' nD' cD') nD' CD') (hg : u.grownBy u' (blkOf AD)) (hat : blkOf AD' = blkOf AD ∨ blkOf AD' = some u.heap.size) :
    R23 base wo u' OA nO cO CO AD' nD' cD' CD' AL nL cL CL gq n9 c9 K9 gx CX qs cs :=
  ⟨own_grown h.oo h.dd (by decide) hg, ho, own_grown h.ll h.dd (by decide) hg, own_grown h.kr h.dd (by decide) hg, blk_grown h.bx h.dd (by decide) hg,
    fun r hr => ⟨⟨own_grown (h.rw_ r hr).1.row h.dd (by decide) hg, fun c hc => ((h.rw_ r hr).1.all c hc).off ((h.rw_ r hr).2.2 c hc) hg⟩, (h.rw_ r hr).2.1, fun c hc => off_at ((h.rw_ r hr).2.2 c hc) ((h.rw_ r hr).1.all c hc) hat⟩,
    fun c hc => ⟨(h.lv c hc).1.off (h.lv c hc).2 hg, off_at (h.lv c hc).2 (h.lv c hc).1 hat⟩, Nat.le_trans h.sz.1 hg.size, h.sz.2⟩
theorem R23.cell (h : R23 base wo u OA nO cO CO AD nD cD CD AL nL cL CL gq n9 c9 K9 gx CX qs cs) {v : Value} (hv : K9[0]? = some v) : u.cell? ⟨gq, 0, none⟩ = some v := by
  have := h.kr.cells (g := gq) rfl 0 v hv
  rw [Addr.add_lit] at this
  simpa using this
/-- a leaf of one's own, while depths are put in -/
theorem blk_dep {gl : Nat} {t : TypeId} {cells : Array Value} (hb : Blk u gl t cells) (hg : u.grownBy u' (blkOf AD)) (hne : blkOf AD ≠ some gl) : Blk u' gl t cells := hb.grown hg (fun e => hne e.symm)
/-- when all is put in -/
theorem R23.done {rs : List CR} {d : List Int} {leaf : Int} {gl n : Nat} (h : R23 base wo u OA (n + 1) cO (rs.map crv ++ [.slice AL (nL + 1) cL]) AD (nD + 1) cD CD AL (nL + 1) cL (cutC cs ++ [.slice (some ⟨gl, 0, none⟩) 1 1, .int .u64 2]) gq n9 c9 K9 gx CX rs cs)
    (hl : Blk u gl 3 #[.int .i64 leaf]) (hgl : wo ≤ gl) (hoff : blkOf AD ≠ some gl) (hcl : cs.length = nL) (hrl : rs.length = n) (hd : CD = ints d) (hdl : d.length = nD + 1) :
    AllM base u OA cO (rs ++ [((AL, cL, cs ++ [(((some ⟨gl, 0, none⟩, 1, [leaf]) : SL), 2)]) : CR)]) AD cD d := by
  subst hcl hrl hd
  have hlen : (cs ++ [(((some ⟨gl, 0, none⟩, 1, [leaf]) : SL), 2)]).length = cs.length + 1 := by simp
  have hcv : crv (AL, cL, cs ++ [(((some ⟨gl, 0, none⟩, 1, [leaf]) : SL), 2)]) = .slice AL (cs.length + 1) cL := by unfold crv; rw [hlen]
  have hlf : OwnL wo u (some ⟨gl, 0, none⟩, 1, [leaf]) := own_of_blkN (cs := [.int .i64 leaf]) hl 1 1 rfl hgl (by omega)
  refine ⟨?_, fun r hr => ?_, ?_⟩
  · rw [List.map_append, List.map_cons, List.map_nil, hcv, List.length_append]; exact h.oo
  · rcases List.mem_append.1 hr with h1 | h1
    · exact ⟨(h.rw_ r h1).1, (h.rw_ r h1).2.2⟩
    · rw [List.mem_singleton] at h1
      subst h1
      refine ⟨⟨?_, fun c hc => ?_⟩, fun c hc => ?_⟩
      · rw [hcv]
        simp only [hlen, cutC_append]
        exact own_down h.ll h.sz.2
      · rcases List.mem_append.1 hc with h2 | h2
        · exact own_down (h.lv c h2).1 h.sz.2
        · rw [List.mem_singleton] at h2; subst h2; exact own_down hlf h.sz.2
      · rcases List.mem_append.1 hc with h2 | h2
        · exact (h.lv c h2).2
        · rw [List.mem_singleton] at h2; subst h2
          intro g hg he
          have e : gl = g := Option.some.inj hg
          subst e; exact hoff he
  · rw [hdl]; exact h.dd
end
end Go.Proofs.YtkhlllbceceikaaDoor
