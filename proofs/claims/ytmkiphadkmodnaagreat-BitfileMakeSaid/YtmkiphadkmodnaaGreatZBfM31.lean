/- BfM, 31 -/
import Derived.Lib.AppendZerosOnto
import Derived.Lib.SliceRun
import Derived.Lib.Walk
import Derived.Deep.RegionHeld3
import Derived.BigRegion
import Derived.Deep.DeepCutAuto
import Derived.Test.YtmkiphadkmodnaaGreatZBfM30
import Derived.Test.YtmkiphadkmodnaaGreatZBfM8
import Derived.Test.YtmkiphadkmodnaaGreatZBfM28
import Derived.Test.YtmkiphadkmodnaaGreatZBfM0
set_option linter.all false
set_option maxRecDepth 100000
set_option maxHeartbeats 8000000
namespace Go.Proofs.YtmkiphadkmodnaaGreat
open Go.RowKit Topo
def flopTo (bs:List BL) (k:Nat):List Nat:=(List.range k).filter fun i=>ffAt bs i
def PK.flops (P:PK):List Nat:=flopTo P.bs P.bs.length
def atV (l:List Int) (W:List Bool):Nat->Nat
 | 0=>0
 | k+1=>atV l W k+if W.getD (l.getD k 0).toNat false=true then 2 ^ k else 0
def valB (l:List Int) (t:Nat) (W:List Bool):Bool:=decide (t/2 ^ atV l W l.length%2=1)
end Go.Proofs.YtmkiphadkmodnaaGreat
namespace Go.Proofs.YtmkiphadkmodnaaGreat
open Go.RowKit
end Go.Proofs.YtmkiphadkmodnaaGreat
namespace Go.Proofs.YtmkiphadkmodnaaGreat
open Go.RowKit Topo
def tAt (bs:List BL) (k:Nat):Int:=match bs[k]? with|some b=>b.t|none=>0
def PK.val (P:PK) (i:Nat) (W:List Bool):Bool:=valB (inL P.bs i) (tAt P.bs i).toNat W
def stTo (I:Nat) (kept:List Nat) (st W:List Bool):Nat->List Bool
 | 0=>W
 | k+1=>(stTo I kept st W k).set (I+kept.getD k 0) (st.getD k false)
theorem stTo_length (I:Nat) (kept:List Nat) (st W:List Bool):∀ k,(stTo I kept st W k).length=W.length
 | 0=>rfl
 | k+1=>by simp only [stTo,List.length_set];exact stTo_length I kept st W k
def PK.w1 (P:PK) (li ls:List Bool):List Bool:=stTo P.I.toNat P.flops ls (li++List.replicate P.bs.length false) P.flops.length
def PK.w2 (P:PK) (O:List Nat) (li ls:List Bool):List Bool:=runL P.val P.I.toNat O (P.w1 li ls)
structure VW (w2 wx:World) (WA:Option Addr) (m cW:Nat) (W:List Bool):Prop where
 below:Below w2.heap.size w2 wx
 own:wx.ownsRow w2.heap.size 4 1 (.slice WA m cW) m (bools W)
theorem VW.keep {w2 wx wy:World} {WA:Option Addr} {m cW:Nat} {W:List Bool} (h:VW w2 wx WA m cW W) (hb:Below wx.heap.size wx wy):VW w2 wy WA m cW W:=⟨bt_ h.below hb,own_keep h.own hb⟩
theorem VW.len {w2 wx:World} {WA:Option Addr} {m cW:Nat} {W:List Bool} (h:VW w2 wx WA m cW W):W.length=m:=by have:=h.own.1;rw [bools_length] at this;omega
theorem VW.cell {w2 wx:World} {g m cW:Nat} {W:List Bool} (h:VW w2 wx (some ⟨g,0,none⟩) m cW W) {k:Nat} (hk:k<m):wx.cell? ⟨g,k,none⟩=some (.bool (W.getD k false)):=by
 have hl:=h.len
 have:=h.own.cells (g:=g) rfl k (.bool (W.getD k false)) (by simp [bools,List.getD_eq_getElem?_getD,List.getElem?_eq_getElem (show k<W.length by omega)])
 rw [Addr.add_lit] at this
 simpa using this
theorem VW.set {w2 wx:World} {g m cW:Nat} {W:List Bool} (h:VW w2 wx (some ⟨g,0,none⟩) m cW W) (k:Nat) (b:Bool):VW w2 (wx.setCell ⟨g,k,none⟩ (.bool b)) (some ⟨g,0,none⟩) m cW (W.set k b):=by
 have hg:=(h.own.lt g rfl).1
 refine ⟨h.below.setCell (p:=⟨g,k,none⟩) hg _,?_⟩
 have:=(h.own.stored k (.bool b)).1
 rwa [show (bools W).set k (.bool b)=bools (W.set k b) by simp [bools,List.map_set]] at this
theorem VW.drew {w2 wx:World} {WA:Option Addr} {m cW:Nat} {W:List Bool} (h:VW w2 wx WA m cW W) (n:Nat):VW w2 (wx.drewN n) WA m cW W:=h.keep (below_drewN br_ n)
theorem wp_app_run (w:World) {o:Oper} {a:Act} {K:Act->World->Prop} {Q:Exit->Act->World->Prop} (s x:Operand) (t tn:TypeId)
  (ho:o.op=.call { callee:=.builtin .append,args:=#[s,x],argTypes:=#[t,tn] }) (v u:Value) (hs:a.eval s=v) (hx:a.eval x=u) {v':Value} {w':World}
  (hr:(Builtin.append_ #[t,tn] o.type #[v,u]).run Tryz.prog w=.ok v' w') (h:K (a.put o.dst v') w'):o.wp Tryz.prog a w K Q:=by
 unfold Oper.wp execOp
 simp only [ho,resolve,invoke,builtin,Sem.run_bind,Sem.run_pure,Result.andThen_ok,List.map_toArray,List.map_cons,List.map_nil,hs,hx,hr]
 exact h
theorem step_app_run {ops:Array Oper} {w:World} {o:Oper} {a:Act} {K:Act->World->Prop} {Q:Exit->Act->World->Prop} {E:Prop} (hgd:o.guard=none) (s x:Operand) (t tn:TypeId)
  (ho:o.op=.call { callee:=.builtin .append,args:=#[s,x],argTypes:=#[t,tn] }) (v u:Value) (hs:a.eval s=v) (hx:a.eval x=u) {v':Value} {w':World}
  (hr:(Builtin.append_ #[t,tn] o.type #[v,u]).run Tryz.prog w=.ok v' w') (h:K (a.put o.dst v') w'):if Region.wanted o (yielded ops a.tmps)=true then Oper.wp Tryz.prog o a w K Q else E:=by
 have hw:Region.wanted o (yielded ops a.tmps)=true:=by simp [Region.wanted,hgd]
 rw [if_pos hw]
 exact wp_app_run w s x t tn ho v u hs hx hr h
end Go.Proofs.YtmkiphadkmodnaaGreat
namespace Go.Proofs.YtmkiphadkmodnaaGreat
open Go.RowKit Topo
theorem mem_edTo {I:Int} {bs:List BL} {i c:Nat} {x:Int} (hi:ffAt bs i=false) (hx:x ∈ inL bs i) (hc:ffAt bs c=false) (he:x-I=(c:Int)):∀ K,i<K->(c,i) ∈ edTo I bs K
 | 0,h=>absurd h (by omega)
 | K+1,h=>by
  simp only [edTo,List.mem_append]
  by_cases hk:i=K
  ·subst hk
   right
   rw [if_neg (by rw [hi];decide)]
   refine List.mem_flatMap.2 ⟨x,hx,?_⟩
   have h2:(x-I).toNat=c:=by omega
   unfold edOf
   rw [h2,if_pos ⟨by omega,hc⟩]
   exact List.mem_singleton.2 rfl
  ·exact .inl (mem_edTo hi hx hc he K (by omega))
theorem mem_E {P:PK} {i c:Nat} {x:Int} (hi:P.S i) (hx:x ∈ inL P.bs i) (hc:P.S c) (he:x-P.I=(c:Int)):c ∈ depE P.E i:=mem_depE.2 (mem_edTo hi hx hc he _ (PK.S_lt hi))
theorem atV_same {l:List Int} {W W':List Bool} (h:∀ x ∈ l,W.getD x.toNat false=W'.getD x.toNat false):∀ k,k<=l.length->atV l W k=atV l W' k
 | 0,_=>rfl
 | k+1,hk=>by
  have hm:l.getD k 0 ∈ l:=by
   rw [List.getD_eq_getElem?_getD,List.getElem?_eq_getElem (show k<l.length by omega)]
   exact List.getElem_mem _
  simp only [atV]
  rw [atV_same h k (by omega),h _ hm]
theorem valB_same {l:List Int} {t:Nat} {W W':List Bool} (h:∀ x ∈ l,W.getD x.toNat false=W'.getD x.toNat false):valB l t W=valB l t W':=by
 unfold valB;rw [atV_same h _ (Nat.le_refl _)]
theorem may_in {P:PK} (hm:P.may) {i:Nat} {x:Int} (hx:x ∈ inL P.bs i):0<=x∧x<P.N:=by
 by_cases hi:i<P.bs.length
 ·rw [inL_get hi] at hx
  exact any_bad_no (hm.2.2.2.1 _ (List.getElem_mem hi)).2.1 x hx
 ·unfold inL at hx
  rw [List.getElem?_eq_none (by omega)] at hx
  simp at hx
theorem val_dep {P:PK} (hm:P.may) {b:Nat} (hb:P.S b) {u w:List Bool} (h:∀ j,(∀ c,P.S c->c ∉ depE P.E b->P.I.toNat+c≠j)->u.getD j false=w.getD j false):P.val b u=P.val b w:=by
 unfold PK.val
 refine valB_same (fun x hx=>h _ (fun c hc hn he=>hn ?_))
 have h1:=may_in hm hx
 have h2:=hm.1
 exact mem_E hb hx hc (by omega)
theorem w1_length (P:PK) (li ls:List Bool):(P.w1 li ls).length=li.length+P.bs.length:=by
 unfold PK.w1;rw [stTo_length];simp
theorem w2_same {P:PK} (hm:P.may) {O O':List Nat} (h:All (depE P.E) P.S O) (h':All (depE P.E) P.S O') {li:List Bool} (hl:(li.length:Int)=P.I) (ls:List Bool):P.w2 O li ls=P.w2 O' li ls :=
 runL_same h h' (N:=P.bs.length) (fun b hb=>PK.S_lt hb) (fun b u w hb he=>val_dep hm hb he) _ (by rw [w1_length];omega)
def PK.tell (P:PK) (O:List Nat) (st li:List Bool):List Bool:=P.outs.map (fun n=>(P.w2 O li st).getD n.toNat false)
def PK.keep (P:PK) (O:List Nat) (st li:List Bool):List Bool:=P.flops.map (fun i=>P.val i (P.w2 O li st))
def itAt (bs:List BL) (k:Nat):Bool:=match bs[k]? with|some b=>b.it|none=>false
theorem itAt_get {bs:List BL} {k:Nat} (h:k<bs.length):itAt bs k=bs[k].it:=by unfold itAt;rw [List.getElem?_eq_getElem h]
def PK.first (P:PK):List Bool:=P.flops.map (itAt P.bs)
def PK.stAt (P:PK) (O:List Nat) (L:List (List Bool)):Nat->List Bool
 | 0=>P.first
 | k+1=>P.keep O (P.stAt O L k) (L.getD k [])
def PK.play (P:PK) (O:List Nat) (L:List (List Bool)):List (List Bool):=(List.range L.length).map (fun k=>P.tell O (P.stAt O L k) (L.getD k []))
end Go.Proofs.YtmkiphadkmodnaaGreat
namespace Go.Proofs.YtmkiphadkmodnaaGreat
open Go.RowKit Topo
structure BR where
 A:Option Addr
 c:Nat
 l:List Bool
def BR.v (b:BR):Value:=.slice b.A b.l.length b.c
structure RowsIn (A:Option Addr) (c:Nat) (L:List BR) (w:World):Prop where
 rows:Rd w 1 A L.length c (L.map BR.v)
 each:∀ b ∈ L,Rd w 1 b.A b.l.length b.c (bools b.l)
theorem RowsIn.later {A:Option Addr} {c:Nat} {L:List BR} {w w':World} (h:RowsIn A c L w) (hb:Below w.heap.size w w'):RowsIn A c L w':=⟨h.rows.later hb,fun b hm=>(h.each b hm).later hb⟩
theorem RowsIn.nil (w:World):RowsIn none 0 [] w:=⟨Rd.empty,fun b hb=>(nomatch hb)⟩
theorem RowsIn.row {A:Option Addr} {c:Nat} {L:List BR} {w:World} (h:RowsIn A c L w) {k:Nat} (hk:k<L.length):∃ a,A=some a∧a.block<w.heap.size∧w.cell? (a.add k)=some (.slice L[k].A L[k].l.length L[k].c)∧Rd w 1 L[k].A L[k].l.length L[k].c (bools L[k].l):=by
 obtain ⟨a,e,h1,h2⟩:=h.rows.read k L[k].v (by simp [hk])
 exact ⟨a,e,h1,h2,h.each _ (List.getElem_mem hk)⟩
def RowsHi (base:Nat) (A:Option Addr) (R:List BR):Prop:=(∀ a,A=some a->base<=a.block)∧∀ b ∈ R,∀ a,b.A=some a->base<=a.block
theorem RowsHi.nil (base:Nat):RowsHi base none []:=⟨fun a h=>(nomatch h),fun b hb=>(nomatch hb)⟩
theorem RowsHi.le {base base':Nat} {A:Option Addr} {R:List BR} (h:RowsHi base A R) (hb:base'<=base):RowsHi base' A R:=⟨fun a e=>Nat.le_trans hb (h.1 a e),fun b hm a e=>Nat.le_trans hb (h.2 b hm a e)⟩
def RunR (P:PK) (L rs:List (List Bool)) (x:Int):Prop :=
 (ChkR P x∧x≠0∧rs=[])∨(ChkR P 0∧(∃ l ∈ L,(l.length:Int)≠P.I)∧x=1∧rs=[])∨(x=0∧P.may∧(∀ l ∈ L,(l.length:Int)=P.I)∧∃ O,All (depE P.E) P.S O∧rs=P.play O L)
def holdRow (R:List BR) (n:Nat):Array Value:=(R.map BR.v++List.replicate (n-R.length) (Value.slice none 0 0)).toArray
theorem holdRow_next {R:List BR} {n:Nat} (h:R.length<n) (b:BR):(holdRow R n).setIfInBounds R.length b.v=holdRow (R++[b]) n:=by
 unfold holdRow
 obtain ⟨m,hm⟩:∃ m,n-R.length=m+1:=⟨n-R.length-1,by omega⟩
 have hm2:n-(R++[b]).length=m:=by simp;omega
 rw [hm,hm2,List.replicate_succ]
 simp only [List.setIfInBounds_toArray,List.map_append,List.map_cons,List.map_nil,List.append_assoc,List.cons_append,List.nil_append]
 congr 1
 rw [List.set_append_right _ _ (by simp)]
 simp
structure RunW (w wx:World) (gO n:Nat) (R:List BR) (A:Option Addr) (c:Nat) (st:List Bool):Prop where
 below:Below w.heap.size w wx
 ge:w.heap.size<=gO
 out:Blk wx gO 35 (holdRow R n)
 st:wx.ownsRow w.heap.size 4 1 (.slice A st.length c) st.length (bools st)
 each:∀ b ∈ R,wx.ownsRow w.heap.size 4 1 b.v b.l.length (bools b.l)
section
variable {w wx wy : World} {gO n : Nat} {R : List BR} {A : Option Addr} {c : Nat} {st : List Bool}
theorem RunW.keep (h:RunW w wx gO n R A c st) (hb:Below wx.heap.size wx wy):RunW w wy gO n R A c st:=⟨bt_ h.below hb,h.ge,h.out.keep hb,own_keep h.st hb,fun b hm=>own_keep (h.each b hm) hb⟩
theorem RunW.put (h:RunW w wx gO n R A c st) (hn:R.length<n) {b:BR} (hb:wx.ownsRow w.heap.size 4 1 b.v b.l.length (bools b.l)) {A':Option Addr} {c':Nat} {st':List Bool} (hs:wx.ownsRow w.heap.size 4 1 (.slice A' st'.length c') st'.length (bools st')) :
  RunW w (wx.setCell ⟨gO,R.length,none⟩ b.v) gO n (R++[b]) A' c' st':=by
 have ht:4≠35:=by decide
 refine ⟨h.below.setCell (p:=⟨gO,R.length,none⟩) h.ge _,h.ge,?_,ownsRow_setCell_other hs (a:=⟨gO,R.length,none⟩) (own_other hs h.out ht) _,fun x hx=>?_⟩
 ·have:=h.out.put R.length b.v
  rwa [holdRow_next hn] at this
 ·rcases List.mem_append.1 hx with hx|hx
  ·exact ownsRow_setCell_other (h.each x hx) (a:=⟨gO,R.length,none⟩) (own_other (h.each x hx) h.out ht) _
  ·obtain rfl:=List.mem_singleton.1 hx
   exact ownsRow_setCell_other hb (a:=⟨gO,R.length,none⟩) (own_other hb h.out ht) _
theorem RunW.hi (h:RunW w wx gO n R A c st):RowsHi w.heap.size (some ⟨gO,0,none⟩) R:=by
 refine ⟨fun a e=>?_,fun b hb a e=>own_base (h.each b hb) (by unfold BR.v;rw [e];rfl)⟩
 injection e with e
 subst e
 exact h.ge
theorem RunW.rows (h:RunW w wx gO n R A c st) (hn:R.length=n) (hc:n<=100000000):RowsIn (some ⟨gO,0,none⟩) n R wx:=by
 subst hn
 refine ⟨⟨by simp,Nat.le_refl _,fun h=>(nomatch h),fun j u hj=>⟨_,rfl,h.out.lt,?_⟩⟩,fun b hb=>Rd.of_own (h.each b hb)⟩
 rw [Addr.add_lit]
 have:=h.out.cell j
 simp only [Nat.zero_add]
 rw [this]
 simpa [holdRow] using hj
end
end Go.Proofs.YtmkiphadkmodnaaGreat
namespace Go.Proofs.YtmkiphadkmodnaaGreat
open Go.RowKit
def fewR (L:List BR) (m:Int):Prop:=(∀ b ∈ L,b.l.length<=200)∧(L.length:Int)<=m
instance (L:List BR) (m:Int):Decidable (fewR L m):=by unfold fewR;infer_instance
end Go.Proofs.YtmkiphadkmodnaaGreat
namespace Go.Proofs.YtmkiphadkmodnaaGreat
open Go.RowKit Topo
structure Twin (P Q:PK) (t:Nat):Prop where
 i:P.I=Q.I
 n:P.bs.length=Q.bs.length
 outs:P.outs=Q.outs
 ins:∀ k,inL P.bs k=inL Q.bs k
 tab:∀ k,k≠t->tAt P.bs k=tAt Q.bs k
 ff:∀ k,ffAt P.bs k=ffAt Q.bs k
 it:∀ k,itAt P.bs k=itAt Q.bs k
 flops:P.flops=Q.flops
 idle:∀ k,∀ x ∈ inL P.bs k,x≠P.I+(t:Int)
 out:∀ x ∈ P.outs,x≠P.I+(t:Int)
theorem edTo_same {I:Int} {bs cs:List BL} (hi:∀ k,inL bs k=inL cs k) (hf:∀ k,ffAt bs k=ffAt cs k):∀ k,edTo I bs k=edTo I cs k
 | 0=>rfl
 | k+1=>by
  have h1:∀ i x,edOf I bs i x=edOf I cs i x:=fun i x=>by unfold edOf;rw [hf]
  have h2:∀ i l,edB I bs i l=edB I cs i l:=fun i l=>by unfold edB;rw [show edOf I bs i=edOf I cs i from funext (h1 i)]
  rw [edTo,edTo,edTo_same hi hf k,hf k,hi k,h2]
section
variable {P Q : PK} {t : Nat}
theorem Twin.E (h:Twin P Q t):P.E=Q.E:=by unfold PK.E;rw [edTo_same h.ins h.ff,h.i,h.n]
theorem Twin.S (h:Twin P Q t):P.S=Q.S:=funext fun k=>by unfold PK.S;rw [h.ff]
def but (j:Nat) (U V:List Bool):Prop:=U.length=V.length∧∀ k,k≠j->U.getD k false=V.getD k false
theorem getD_put (U:List Bool) (i:Nat) (b:Bool) (k:Nat):(U.set i b).getD k false=if i=k∧i<U.length then b else U.getD k false:=by
 simp only [List.getD_eq_getElem?_getD,List.getElem?_set]
 by_cases h:i=k
 ·subst h
  by_cases h2:i<U.length
  ·simp [h2]
  ·simp [h2,List.getElem?_eq_none (show U.length<=i by omega)]
 ·simp [h]
theorem but.set {j:Nat} {U V:List Bool} (h:but j U V) (i:Nat) {a b:Bool} (hab:i≠j->a=b):but j (U.set i a) (V.set i b):=by
 refine ⟨by simp [h.1],fun k hk=>?_⟩
 rw [getD_put,getD_put,h.1,h.2 k hk]
 by_cases hi:i=k∧i<V.length
 ·rw [if_pos hi,if_pos hi];exact hab (by omega)
 ·rw [if_neg hi,if_neg hi]
theorem but.refl (j:Nat) (U:List Bool):but j U U:=⟨rfl,fun _ _=>rfl⟩
def butS (P:PK) (t:Nat) (s u:List Bool):Prop:=s.length=u.length∧∀ k,P.flops.getD k 0≠t->s.getD k false=u.getD k false
theorem stTo_but {n t:Nat} {F:List Nat} {s u:List Bool} (hs:∀ k,F.getD k 0≠t->s.getD k false=u.getD k false) (W:List Bool):∀ k,but (n+t) (stTo n F s W k) (stTo n F u W k)
 | 0=>but.refl _ _
 | k+1=>(stTo_but hs W k).set _ (fun hne=>hs k (by omega))
theorem Twin.val (h:Twin P Q t) (hm:P.may) {b:Nat} (hb:b≠t) {U V:List Bool} (hu:but (P.I.toNat+t) U V):P.val b U=Q.val b V:=by
 unfold PK.val
 rw [h.tab b hb,<- h.ins b]
 refine valB_same (fun x hx=>hu.2 _ ?_)
 have h1:=may_in hm hx
 have h2:=h.idle b x hx
 have h3:=hm.1
 omega
theorem Twin.runL (h:Twin P Q t) (hm:P.may):∀ (O:List Nat) {U V:List Bool},but (P.I.toNat+t) U V->but (P.I.toNat+t) (runL P.val P.I.toNat O U) (runL Q.val P.I.toNat O V)
 | [],_,_,hu=>hu
 | b::O,U,V,hu=>by
  show but _ (Topo.runL P.val P.I.toNat O (U.set (P.I.toNat+b) (P.val b U))) (Topo.runL Q.val P.I.toNat O (V.set (P.I.toNat+b) (Q.val b V)))
  exact Twin.runL h hm O (hu.set _ (fun hne=>h.val hm (by omega) hu))
theorem Twin.w2 (h:Twin P Q t) (hm:P.may) (O:List Nat) (li:List Bool) {s u:List Bool} (hs:butS P t s u):but (P.I.toNat+t) (P.w2 O li s) (Q.w2 O li u):=by
 unfold PK.w2 PK.w1
 rw [<- h.i,<- h.flops,<- h.n]
 exact h.runL hm O (stTo_but hs.2 _ _)
theorem Twin.tell (h:Twin P Q t) (hm:P.may) (O:List Nat) (li:List Bool) {s u:List Bool} (hs:butS P t s u):P.tell O s li=Q.tell O u li:=by
 unfold PK.tell
 rw [<- h.outs]
 refine List.map_congr_left (fun x hx=>(h.w2 hm O li hs).2 _ ?_)
 have h1:=any_bad_no hm.2.2.2.2 x hx
 have h2:=h.out x hx
 have h3:=hm.1
 omega
theorem Twin.keep (h:Twin P Q t) (hm:P.may) (O:List Nat) (li:List Bool) {s u:List Bool} (hs:butS P t s u):butS P t (P.keep O s li) (Q.keep O u li):=by
 refine ⟨by unfold PK.keep;simp [h.flops],fun k hk=>?_⟩
 unfold PK.keep
 rw [<- h.flops]
 simp only [List.getD_eq_getElem?_getD,List.getElem?_map] at hk ⊢
 by_cases hl:k<P.flops.length
 ·rw [List.getElem?_eq_getElem hl] at hk ⊢
  simp only [Option.map_some,Option.getD_some] at hk ⊢
  exact h.val hm hk (h.w2 hm O li hs)
 ·rw [List.getElem?_eq_none (by omega)]
  rfl
theorem Twin.first (h:Twin P Q t):P.first=Q.first:=by
 unfold PK.first;rw [<- h.flops];exact List.map_congr_left (fun i _=>h.it i)
theorem Twin.stAt (h:Twin P Q t) (hm:P.may) (O:List Nat) (L:List (List Bool)):∀ k,butS P t (P.stAt O L k) (Q.stAt O L k)
 | 0=>by show butS P t P.first Q.first;rw [h.first];exact ⟨rfl,fun _ _=>rfl⟩
 | k+1=>h.keep hm O _ (Twin.stAt h hm O L k)
theorem Twin.play (h:Twin P Q t) (hm:P.may) (O:List Nat) (L:List (List Bool)):P.play O L=Q.play O L:=by
 unfold PK.play
 exact List.map_congr_left (fun k _=>h.tell hm O _ (h.stAt hm O L k))
theorem play_same (hm:P.may) {O O':List Nat} (h:All (depE P.E) P.S O) (h':All (depE P.E) P.S O') {L:List (List Bool)} (hl:∀ l ∈ L,(l.length:Int)=P.I):P.play O L=P.play O' L:=by
 have hk:∀ k,k<L.length->((L.getD k []).length:Int)=P.I:=fun k hk=>hl _ (by rw [List.getD_eq_getElem?_getD,List.getElem?_eq_getElem hk];exact List.getElem_mem hk)
 have hs:∀ k,k<=L.length->P.stAt O L k=P.stAt O' L k:=by
  intro k
  induction k with
  | zero=>intro _;rfl
  | succ k ih =>
   intro hkl
   show P.keep O (P.stAt O L k) _=P.keep O' (P.stAt O' L k) _
   rw [ih (by omega)]
   unfold PK.keep
   rw [w2_same hm h h' (hk k (by omega))]
 unfold PK.play
 refine List.map_congr_left (fun k hkm=>?_)
 have hkl:=List.mem_range.1 hkm
 rw [hs k (by omega)]
 unfold PK.tell
 rw [w2_same hm h h' (hk k hkl)]
theorem Twin.run (h:Twin P Q t) (hm:P.may) (hm':Q.may) {O:List Nat} (hO:All (depE P.E) P.S O) {L rs rs':List (List Bool)} {x x':Int} (h1:RunR P L rs x) (h2:RunR Q L rs' x'):x=x'∧rs=rs':=by
 have hO':All (depE Q.E) Q.S O:=by rw [<- h.E,<- h.S];exact hO
 have c1:ChkR P 0:=.inl ⟨rfl,hm,O,hO⟩
 have c2:ChkR Q 0:=.inl ⟨rfl,hm',O,hO'⟩
 rcases h1 with ⟨a,b,-⟩|⟨-,⟨l,hl,hne⟩,rfl,rfl⟩|⟨rfl,-,ha,O1,hO1,rfl⟩
 ·exact absurd (a.one c1) b
 ·rcases h2 with ⟨a,b,-⟩|⟨-,-,rfl,rfl⟩|⟨-,-,hb,-⟩
  ·exact absurd (a.one c2) b
  ·exact ⟨rfl,rfl⟩
  ·exact absurd (by rw [hb l hl,h.i]) hne
 ·rcases h2 with ⟨a,b,-⟩|⟨-,⟨l,hl,hne⟩,-,-⟩|⟨rfl,-,hb,O2,hO2,rfl⟩
  ·exact absurd (a.one c2) b
  ·exact absurd (by rw [ha l hl,h.i]) hne
  ·exact ⟨rfl,by rw [play_same hm hO1 hO ha,h.play hm O L,play_same hm' hO' hO2 hb]⟩
end
end Go.Proofs.YtmkiphadkmodnaaGreat
