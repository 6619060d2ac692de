/- BfM, 52 -/
import Derived.Test.YtmkiphadkmodnaaGreatZBfM51
import Derived.Test.YtmkiphadkmodnaaGreatZBfM43
import Derived.Test.YtmkiphadkmodnaaGreatZBfM0
set_option linter.all false
set_option maxRecDepth 100000
set_option maxHeartbeats 8000000
namespace Go.Proofs.YtmkiphadkmodnaaGreat
open Go.ChangeShapes Go.WideShapes Go.ChangeAt Go.RowKit Go.Joins Go.Deep
theorem gen_len {α:Type} (f:α->List Value) {sz:Nat} (hf:∀ a,(f a).length=sz) (l:List α):(l.flatMap f).length=l.length*sz:=by
 induction l with
 | nil=>simp
 | cons x l ih=>rw [List.flatMap_cons,List.length_append,ih,hf,List.length_cons,Nat.succ_mul];omega
theorem gen_get {α:Type} (f:α->List Value) {sz:Nat} (hf:∀ a,(f a).length=sz):∀ (l:List α) (k j:Nat) (hk:k<l.length),j<sz->(l.flatMap f)[k*sz+j]? = (f l[k])[j]?
 | x::l,0,j,_,hj=>by rw [List.flatMap_cons,List.getElem?_append_left (by rw [hf];omega)];simp
 | x::l,k+1,j,hk,hj=>by
  have ih:=gen_get f hf l k j (by simpa using hk) hj
  rw [List.flatMap_cons,List.getElem?_append_right (by rw [hf,Nat.succ_mul];omega),hf,show (k+1)*sz+j-sz=k*sz+j by rw [Nat.succ_mul];omega,ih]
  rfl
section
variable {H : Type} {enc : TypeId × Value → H} {P : Program} {w : World} {base : Nat} {held : Bool}
theorem rd_gen {α:Type} [Inhabited α] (f:α->List Value) (Q:α->Prop) {sz:Nat} (hs:0<sz) (hf:∀ a,(f a).length=sz) {t e:TypeId} {fuel:Nat} {v:Value} {y:DataW H × List MemPlace} (ht:P.underlying t=some (.slice e)) (hC:P.cellsOf e=sz)
  (hel:∀ n cs y,cs.length=sz->DataW.trod enc P w base (fun _=>true) held n e cs=some y->∃ a,cs=f a∧Q a)
  (h:DataW.trod enc P w base (fun _=>true) held fuel t [v]=some y):∃ (A:Option Addr) (c:Nat) (l:List α),v=.slice A l.length c∧Rd w sz A l.length c (l.flatMap f)∧(∀ a ∈ l,Q a)∧l.length<=maxLen:=by
 rcases open_slice ht h with ⟨g1,-⟩|⟨a,len,cap,m,n,D,Pl,g1,hb,hl,hm,hmm,-,hcell⟩
 ·injection g1 with g1
  exact ⟨none,0,[],g1,by simpa using Rd.empty,fun n hn=>(by cases hn),Nat.zero_le _⟩
 ·injection g1 with g1
  simp only [if_true] at hmm
  subst hmm
  have key:∀ i,i<m->∃ t:α,(∀ j,j<sz->w.cell? (a.add (i*sz+j))=(f t)[j]?)∧Q t:=by
   intro i hi
   obtain ⟨cs',hc,ht'⟩:=hcell i hi
   rw [hC] at hc
   obtain ⟨_,hcl,hat⟩:=World.cells?_some hc
   obtain ⟨t,hcs,hq⟩:=hel _ _ _ hcl ht'
   subst hcs
   exact ⟨t,fun j hj=>by have:=hat j (by omega);rw [Go.Deep.add_add] at this;rw [this,List.getElem?_eq_getElem (by rw [hf];exact hj)],hq⟩
  obtain ⟨F,hF⟩:∃ F:Nat->α,∀ i,i<m->(∀ j,j<sz->w.cell? (a.add (i*sz+j))=(f (F i))[j]?)∧Q (F i):=by
   refine ⟨fun i=>if h:i<m then Classical.choose (key i h) else default,fun i hi=>?_⟩
   simp only [dif_pos hi]
   exact Classical.choose_spec (key i hi)
  have hll:((List.range len).map F).length=len:=by simp
  refine ⟨some a,m,(List.range len).map F,by rw [hll];exact g1,⟨gen_len f hf _,by omega,(fun h=>by cases h),?_⟩,fun t ht=>?_,by rw [hll];omega⟩
  ·intro j u hj
   have hjl:j<len*sz:=by have:=(List.getElem?_eq_some_iff.1 hj).1;rw [gen_len f hf,hll] at this;exact this
   have hdm:=Nat.div_add_mod j sz
   have hml:=Nat.mod_lt j hs
   have hq:j/sz<len:=(Nat.div_lt_iff_lt_mul hs).2 hjl
   have hjj:j=j/sz*sz+j%sz:=by rw [Nat.mul_comm];omega
   have g0:=(hF (j/sz) (by omega)).1 (j%sz) hml
   have t0:=gen_get f hf ((List.range len).map F) (j/sz) (j%sz) (by rw [hll];exact hq) hml
   have hel:((List.range len).map F)[j/sz]'(by rw [hll];exact hq)=F (j/sz):=by simp
   rw [hel,<- hjj,hj] at t0
   rw [<- t0,<- hjj] at g0
   refine ⟨a,rfl,?_,g0⟩
   have:=block_lt_of_cell g0;rwa [add_block] at this
  ·obtain ⟨i,hi,rfl⟩:=List.mem_map.1 ht
   exact (hF i (by have:=List.mem_range.1 hi;omega)).2
theorem rd_intsL {t e:TypeId} {fuel:Nat} {v:Value} {y:DataW H × List MemPlace} (ht:P.underlying t=some (.slice e)) (he:P.underlying e=some (.int .i64)) (hc:P.cellsOf e=1)
  (h:DataW.trod enc P w base (fun _=>true) held fuel t [v]=some y):∃ A c l,v=.slice A l.length c∧Rd w 1 A l.length c (ints l)∧(∀ n ∈ l,(Lit.int .i64 n).wf=true)∧l.length<=maxLen:=by
 obtain ⟨A,c,l,h1,h2,h3,h4⟩:=rd_gen (α:=Int) (fun n=>[.int .i64 n]) (fun n=>(Lit.int .i64 n).wf=true) (sz:=1) (by decide) (fun _=>rfl) ht hc (fun n cs y hl hy=>by
  match cs,hl with
  | [u],_ =>
   obtain ⟨i,r,-,v⟩:=DataW.trod_int he hy
   simp at r
   subst r
   exact ⟨i,rfl,v⟩) h
 refine ⟨A,c,l,h1,?_,h3,h4⟩
 have e:ints l=l.flatMap fun n=>[Value.int .i64 n]:=by unfold ints;rw [<- List.map_eq_flatMap]
 rw [e];exact h2
end
theorem lit_i64q {n:Int} (h:(Lit.int .i64 n).wf=true):-9223372036854775808<=n∧n<=9223372036854775807:=by
 have h1:IntKind.i64.min=-9223372036854775808:=rfl
 have h2:IntKind.i64.max=9223372036854775807:=rfl
 simp [Lit.wf] at h
 omega
structure PK.wf (P:PK):Prop where
 i:-9223372036854775808<=P.I∧P.I<=9223372036854775807
 t:∀ b ∈ P.bs,-9223372036854775808<=b.t∧b.t<=9223372036854775807
 l:∀ b ∈ P.bs,b.l.length<=maxLen
instance:Inhabited BL:=⟨⟨none,0,[],0,false,false⟩⟩
theorem open_pack {H:Type} {enc:TypeId × Value->H} {w:World} {base b0:Nat} {held:Bool} {r:Reach} {v:Value} {d:DataW H} {p:List MemPlace}
  (hv:Value.okWide Tryz.prog w r b0 27 v) (h:DataW.Trod enc Tryz.prog w base (fun _=>true) held 27 v d p) :
  ∃ P:PK,v=.agg #[.int .i64 P.I,.slice P.AB P.bs.length P.cB,.slice P.AO P.outs.length P.cO]∧P.In w∧P.wf:=by
 obtain ⟨cs,rfl,hsz⟩:=okWide_struct Tryz.underlying27 hv
 obtain ⟨l⟩:=cs
 have kA:Tryz.prog.cellsOf 24=1:=by kernel_rfl
 have kI:Tryz.prog.cellsOf 25=1:=by kernel_rfl
 have k1:Tryz.prog.cellsOf 3=1:=by kernel_rfl
 have kb:Tryz.prog.cellsOf 4=1:=by kernel_rfl
 match l,hsz.trans (by kernel_rfl:Tryz.prog.cellsOf 27=3) with
 | [c0,c1,c2],_ =>
  obtain ⟨fuel,hf⟩:=h
  obtain ⟨xs,n,_,hx,_,hlen,hg⟩:=DataW.trod_struct Tryz.underlying27 hf
  match xs,hlen with
  | [y0,y1,y2],_ =>
   have g0:DataW.trod enc Tryz.prog w base (fun _=>true) held n 3 [c0]=some y0:=by simpa [Value.cells,k1] using hg 0 _ rfl
   have g1:DataW.trod enc Tryz.prog w base (fun _=>true) held n 24 [c1]=some y1:=by simpa [Value.cells,kA] using hg 1 _ rfl
   have g2:DataW.trod enc Tryz.prog w base (fun _=>true) held n 25 [c2]=some y2:=by simpa [Value.cells,kI] using hg 2 _ rfl
   obtain ⟨a0,q0,-,w0⟩:=DataW.trod_int Tryz.underlying3 g0
   simp at q0
   subst q0
   obtain ⟨AB,cB,bs,rfl,hB,wB,-⟩:=rd_gen (α:=BL) BL.cells (fun b=>Rd w 1 b.A b.l.length b.c (ints b.l)∧(-9223372036854775808<=b.t∧b.t<=9223372036854775807)∧b.l.length<=maxLen) (sz:=4) (by decide) (fun _=>rfl) Tryz.underlying24 (by kernel_rfl) (by
    intro n cs y hl2 hy
    obtain ⟨zs,m,_,hz,_,hzl,hzg⟩:=DataW.trod_struct Tryz.underlying62 hy
    match cs,hl2,zs,hzl with
    | [u0,u1,u2,u3],_,[z0,z1,z2,z3],_ =>
     have e0:DataW.trod enc Tryz.prog w base (fun _=>true) held m 25 [u0]=some z0:=by simpa [Value.cells,kI] using hzg 0 _ rfl
     have e1:DataW.trod enc Tryz.prog w base (fun _=>true) held m 3 [u1]=some z1:=by simpa [Value.cells,k1] using hzg 1 _ rfl
     have e2:DataW.trod enc Tryz.prog w base (fun _=>true) held m 4 [u2]=some z2:=by simpa [Value.cells,kb] using hzg 2 _ rfl
     have e3:DataW.trod enc Tryz.prog w base (fun _=>true) held m 4 [u3]=some z3:=by simpa [Value.cells,kb] using hzg 3 _ rfl
     obtain ⟨A0,n0,l0,rfl,hR,-,hL⟩:=rd_intsL Tryz.underlying25 Tryz.underlying3 k1 e0
     obtain ⟨i1,r1,-,v1⟩:=DataW.trod_int Tryz.underlying3 e1
     obtain ⟨b2,r2,-⟩:=DataW.trod_bool Tryz.underlying4 e2
     obtain ⟨b3,r3,-⟩:=DataW.trod_bool Tryz.underlying4 e3
     simp at r1 r2 r3
     subst r1 r2 r3
     exact ⟨⟨A0,n0,l0,i1,b2,b3⟩,rfl,hR,lit_i64q v1,hL⟩) g1
   obtain ⟨AO,cO,ou,rfl,hO,-,-⟩:=rd_intsL Tryz.underlying25 Tryz.underlying3 k1 g2
   exact ⟨⟨a0,AB,cB,bs,AO,cO,ou⟩,rfl,⟨hB,fun b hb=>(wB b hb).1,hO⟩,⟨lit_i64q w0,fun b hb=>(wB b hb).2.1,fun b hb=>(wB b hb).2.2⟩⟩
theorem open_spots {H:Type} {enc:TypeId × Value->H} {w:World} {base b0:Nat} {held:Bool} {r:Reach} {v:Value} {d:DataW H} {p:List MemPlace}
  (hv:Value.okWide Tryz.prog w r b0 29 v) (h:DataW.Trod enc Tryz.prog w base (fun _=>true) held 29 v d p) :
  ∃ S:SPT,v=.agg #[.slice S.AB S.sb.length S.cB,.slice S.AI S.si.length S.cI,.slice S.AO S.so.length S.cO]∧S.In w:=by
 obtain ⟨cs,rfl,hsz⟩:=okWide_struct Tryz.underlying29 hv
 obtain ⟨l⟩:=cs
 have kI:Tryz.prog.cellsOf 25=1:=by kernel_rfl
 have k1:Tryz.prog.cellsOf 3=1:=by kernel_rfl
 match l,hsz.trans (by kernel_rfl:Tryz.prog.cellsOf 29=3) with
 | [c0,c1,c2],_ =>
  obtain ⟨fuel,hf⟩:=h
  obtain ⟨xs,n,_,hx,_,hlen,hg⟩:=DataW.trod_struct Tryz.underlying29 hf
  match xs,hlen with
  | [y0,y1,y2],_ =>
   have g0:DataW.trod enc Tryz.prog w base (fun _=>true) held n 25 [c0]=some y0:=by simpa [Value.cells,kI] using hg 0 _ rfl
   have g1:DataW.trod enc Tryz.prog w base (fun _=>true) held n 25 [c1]=some y1:=by simpa [Value.cells,kI] using hg 1 _ rfl
   have g2:DataW.trod enc Tryz.prog w base (fun _=>true) held n 25 [c2]=some y2:=by simpa [Value.cells,kI] using hg 2 _ rfl
   obtain ⟨A0,n0,l0,rfl,h0,-⟩:=rd_intsL Tryz.underlying25 Tryz.underlying3 k1 g0
   obtain ⟨A1,n1,l1,rfl,h1,-⟩:=rd_intsL Tryz.underlying25 Tryz.underlying3 k1 g1
   obtain ⟨A2,n2,l2,rfl,h2,-⟩:=rd_intsL Tryz.underlying25 Tryz.underlying3 k1 g2
   exact ⟨⟨A0,n0,l0,A1,n1,l1,A2,n2,l2⟩,rfl,⟨h0,h1,h2⟩⟩
theorem open_ways {H:Type} {enc:TypeId × Value->H} {w:World} {base b0:Nat} {held:Bool} {r:Reach} {v:Value} {d:DataW H} {p:List MemPlace}
  (hv:Value.okWide Tryz.prog w r b0 30 v) (h:DataW.Trod enc Tryz.prog w base (fun _=>true) held 30 v d p) :
  ∃ A c ls,v=.slice A (ls:List SL).length c∧SLs w A c ls∧ls.length<=maxLen∧∀ l ∈ ls,l.2.2.length<=maxLen:=by
 have kI:Tryz.prog.cellsOf 25=1:=by kernel_rfl
 have k1:Tryz.prog.cellsOf 3=1:=by kernel_rfl
 obtain ⟨a1,len,cap,rfl⟩:=okWide_slice Tryz.underlying30 hv
 obtain ⟨fuel,hf⟩:=h
 obtain ⟨A,c,l,h1,h2,h3,h4⟩:=rd_gen (α:=SL) (fun l=>[slv l]) (fun l=>Rd w 1 l.1 l.2.2.length l.2.1 (ints l.2.2)∧l.2.2.length<=maxLen) (sz:=1) (by decide) (fun _=>rfl) Tryz.underlying30 kI (fun n cs y hl hy=>by
  match cs,hl with
  | [u],_ =>
   obtain ⟨A0,n0,l0,rfl,hR,-,hL⟩:=rd_intsL Tryz.underlying25 Tryz.underlying3 k1 hy
   exact ⟨(A0,n0,l0),rfl,hR,hL⟩) hf
 refine ⟨A,c,l,h1,⟨?_,fun x hx=>(h3 x hx).1⟩,h4,fun x hx=>(h3 x hx).2⟩
 have e:l.map slv=l.flatMap fun x=>[slv x]:=by rw [<- List.map_eq_flatMap]
 rw [e];exact h2
end Go.Proofs.YtmkiphadkmodnaaGreat
