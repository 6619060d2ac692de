/- BfM, 38 -/
import Derived.Deep.Slices
import Derived.Test.YtmkiphadkmodnaaGreatZBfM37
import Derived.Test.YtmkiphadkmodnaaGreatZBfM0
set_option linter.all false
set_option maxRecDepth 100000
set_option maxHeartbeats 8000000
namespace Go.Proofs.YtmkiphadkmodnaaGreat
open Go.RowKit
theorem Blk.setCells {w:World} {g:Nat} {t:TypeId}:∀ (vs cs:List Value) (o:Nat),Blk w g t cs.toArray->o+vs.length<=cs.length->Blk (w.setCells g o vs) g t (cs.take o++vs++cs.drop (o+vs.length)).toArray
 | [],cs,o,h,_=>by
  have e:(cs.take o++[]++cs.drop (o+([]:List Value).length))=cs:=by simp
  rw [e];exact h
 | v::vs,cs,o,h,hl=>by
  simp only [List.length_cons] at hl
  have h1:=h.put o v
  have e:cs.toArray.setIfInBounds o v=(cs.set o v).toArray:=by simp
  rw [e] at h1
  have ih:=Blk.setCells vs (cs.set o v) (o+1) h1 (by simp;omega)
  have e2:(cs.set o v).take (o+1)++vs++(cs.set o v).drop (o+1+vs.length)=cs.take o++(v::vs)++cs.drop (o+(v::vs).length):=by
   rw [List.drop_set_of_lt (by omega),List.take_set]
   have:(cs.take (o+1)).set o v=cs.take o++[v]:=by
    rw [List.take_succ_eq_append_getElem (show o<cs.length by omega),List.set_append_right _ _ (by simp;omega)]
    simp [Nat.min_eq_left (by omega:o<=cs.length)]
   rw [this]
   simp [Nat.add_assoc,Nat.add_comm 1]
  rw [e2] at ih
  exact ih
theorem Chg.wide {w w':World} {X Y:Nat->Prop} (h:Chg w w' X) (hx:∀ k,X k->Y k):Chg w w' Y:=⟨h.os,h.tape,h.output,h.size,fun k hk hy=>h.block k hk fun hX=>hy (hx k hX)⟩
theorem Chg.setCells (g:Nat):∀ (vs:List Value) (o:Nat) (w:World),Chg w (w.setCells g o vs) fun k=>k=g
 | [],o,w=>⟨rfl,rfl,rfl,Nat.le_refl _,fun _ _ _=>rfl⟩
 | v::vs,o,w=>by
  have h1:=Chg.set w g o v
  have h2:=Chg.setCells g vs (o+1) (w.setCell ⟨g,o,none⟩ v)
  exact (h1.trans h2).wide (fun k h=>by rcases h with h|h <;> exact h)
theorem run_clear_rows (w:World) (t e ty:TypeId) (z:Value) (sz:Nat) (ht:Tryz.prog.underlying t=some (.slice e)) (hv:∀ w,(zeroValue e).run Tryz.prog w=.ok z w) (hz:∀ n,(Builtin.zeroCells z.cells n).size=n*sz) (h1:∀ n,∀ v ∈ (Builtin.zeroCells z.cells n).toList,v.oneCell'=true) (b o n c:Nat) (hn:0<n)
  (hc:∀ j,j<n*sz->(w.cell? ⟨b,o+j,none⟩).isSome=true) (hf:∀ j,j<n*sz->w.frozen? ⟨b,o+j,none⟩=false) :
  (Builtin.clear_ #[t] ty #[.slice (some ⟨b,o,none⟩) n c]).run Tryz.prog w=.ok (.tuple #[]) (w.setCells b o (Builtin.zeroCells z.cells n).toList):=by
 have hst:=run_storeCells_cells (P:=Tryz.prog) b o (Builtin.zeroCells z.cells n).toList 0 w (by simpa [hz] using hc) (by simpa [hz] using hf) (h1 n)
 simp only [Nat.add_zero] at hst
 obtain ⟨m,rfl⟩:∃ m,n=m+1:=⟨n-1,by omega⟩
 simp [Builtin.clear_,run_underlying ht,hv,hst]
theorem zero_wire (w:World):(zeroValue 87).run Tryz.prog w=.ok (.agg #[.int .i64 0,.slice none 0 0]) w:=by kernel_rfl
theorem zeroW_size (n:Nat):(Builtin.zeroCells (Value.agg #[.int .i64 0,.slice none 0 0]).cells n).size=n*2:=by
 simp [Builtin.zeroCells,Value.cells]
theorem zeroW_one (n:Nat):∀ v ∈ (Builtin.zeroCells (Value.agg #[.int .i64 0,.slice none 0 0]).cells n).toList,v.oneCell'=true:=by
 intro v hv
 obtain ⟨i,hi,rfl⟩:∃ i:Nat,True∧(#[Value.int .i64 0,.slice none 0 0]:Array Value)[i%2]! = v:=by
  simp [Builtin.zeroCells,Value.cells] at hv
  obtain ⟨i,-,h⟩:=hv
  exact ⟨i,trivial,by rw [<- h];simp⟩
 have hd:∀ j,j<2->((#[Value.int .i64 0,.slice none 0 0]:Array Value)[j]!).oneCell'=true:=by decide
 exact hd _ (Nat.mod_lt _ (by omega))
def fltW (ws:List WM):List WM:=ws.filter fun x=>!x.2.2.2.isEmpty
theorem fltW_yes {ws:List WM} {j:Nat} (hj:j<ws.length) (h:ws[j].2.2.2≠[]):fltW (ws.take (j+1))=fltW (ws.take j)++[ws[j]]:=by
 unfold fltW;rw [List.take_succ_eq_append_getElem hj,List.filter_append];simp [h]
theorem fltW_no {ws:List WM} {j:Nat} (hj:j<ws.length) (h:ws[j].2.2.2=[]):fltW (ws.take (j+1))=fltW (ws.take j):=by
 unfold fltW;rw [List.take_succ_eq_append_getElem hj,List.filter_append];simp [h]
theorem fltW_len (ws:List WM) (j:Nat):(fltW (ws.take j)).length<=j:=by
 unfold fltW
 have h1:=List.length_filter_le (fun x:WM=>!x.2.2.2.isEmpty) (ws.take j)
 rw [List.length_take] at h1
 omega
theorem fltW_all {ws:List WM} (h:∀ x ∈ ws,x.2.2.2≠[]):fltW ws=ws:=List.filter_eq_self.2 fun x hx=>by simp [h x hx]
theorem fltW_wpl (ws:List WM):wpl (fltW ws)=(wpl ws).filter fun w=>!w.2.isEmpty:=by unfold wpl fltW;rw [List.filter_map];rfl
def delC (ws:List WM) (j:Nat):List Value:=wcells (fltW (ws.take j))++(wcells ws).drop ((fltW (ws.take j)).length*2)
theorem delC_get {ws:List WM} {j i:Nat} (hi:(fltW (ws.take j)).length*2<=i):(delC ws j)[i]? = (wcells ws)[i]?:=by
 unfold delC
 rw [List.getElem?_append_right (by rw [wcells_len];exact hi),wcells_len,List.getElem?_drop]
 congr 1
 omega
theorem delC_len {ws:List WM} {j:Nat} (hj:j<=ws.length):(delC ws j).length=ws.length*2:=by
 unfold delC
 have:=fltW_len ws j
 rw [List.length_append,List.length_drop,wcells_len,wcells_len]
 omega
theorem delC_next {ws:List WM} {j:Nat} (hj:j<ws.length) (h:ws[j].2.2.2≠[]):delC ws (j+1)=(delC ws j).take ((fltW (ws.take j)).length*2)++[.int .i64 ws[j].1,slv ws[j].2]++(delC ws j).drop ((fltW (ws.take j)).length*2+2):=by
 unfold delC
 rw [fltW_yes hj h,wcells_app,List.length_append]
 have e1:(wcells (fltW (ws.take j))++(wcells ws).drop ((fltW (ws.take j)).length*2)).take ((fltW (ws.take j)).length*2)=wcells (fltW (ws.take j)):=List.take_left' (wcells_len _)
 have e2:(wcells (fltW (ws.take j))++(wcells ws).drop ((fltW (ws.take j)).length*2)).drop ((fltW (ws.take j)).length*2+2)=(wcells ws).drop (((fltW (ws.take j)).length+1)*2):=by
  rw [<- List.drop_drop,List.drop_left' (wcells_len _),List.drop_drop]
  congr 1
  omega
 rw [e1,e2]
 rfl
theorem isE_any (f:Int) (A:Option Addr) (n c:Nat) (w:World) :
  Calls Tryz.prog 52 #[.agg #[.int .i64 f,.slice A n c]] w fun r w'=>r=.returned (.bool (decide (n=0)))∧Below w.heap.size w w':=by
 have B0:=hd_ (bn_ w (.cells #[.int .i64 f,.slice A n c] 87))
 have T0:=hd_ (Blk.made w 87 #[.int .i64 f,.slice A n c])
 have t1:=T0.out.cell 1
 have hd:((n:Int)==0)=decide (n=0):=by
  by_cases h:n=0
  ·subst h;rfl
  ·rw [decide_eq_false h,beq_eq_false_iff_ne];omega
 go_enter Tryz.func52,Tryz.ntmps52
 go_wp2_with fail
 go_ret
 exact ⟨rfl,B0.out⟩
def IndexW (ws:List WM) (w:World) (e:Ending) (w':World):Prop :=
 ∃ i:Int,e=.returned (.int .i64 i)∧((i=-1∧∀ x ∈ ws,x.2.2.2≠[])∨(∃ k:Nat,∃ hk:k<ws.length,i=(k:Int)∧ws[k].2.2.2=[]∧fltW (ws.take k)=ws.take k))∧Below w.heap.size w w'
theorem indexW_any (ga N:Nat) (ws:List WM) (w:World) (hb:Blk w ga 87 (wcells ws).toArray) (hl:ws.length=N) (hn:N<=100000) :
  Calls Tryz.prog 95 #[.slice (some ⟨ga,0,none⟩) N N,.func (.func 52) #[] #[]] w (IndexW ws w):=by
 have HL:=hd_ hl
 have HB:=hd_ hb
 have HS:=hd_ hb.lt
 clear hb hl
 go_enter Tryz.func95,Tryz.ntmps95
 go_wp2_with fail
 go_loopw [8] (fun i wx=>∃ k:Nat,k<=N∧i=.int .i64 (k:Int)∧Hid (fltW (ws.take k)=ws.take k)∧Below w.heap.size w wx) (fun i _=>N-(intOf i).toNat)
 case atStart=>exact ⟨0,by omega,rfl,hd_ rfl,br_⟩
 case round =>
  obtain ⟨k,hk,rfl,HN,hB⟩:=hrel
  have B1:=hd_ hB
  clear hB
  by_cases hlt:k<N
  ·have hlt':(k:Int)<(N:Int):=by omega
   have hkl:k<ws.length:=by rw [HL.out];exact hlt
   have hbk:=HB.out.keep B1.out
   have c0:=hbk.cell (k*2)
   have c1:=hbk.cell (k*2+1)
   rw [List.getElem?_toArray,(wcells_get ws k hkl).1] at c0
   rw [List.getElem?_toArray,(wcells_get ws k hkl).2] at c1
   have HY:=hd_ (show ws[k].2.2.2≠[]->fltW (ws.take (k+1))=ws.take (k+1) from fun h=>by rw [fltW_yes hkl h,HN.out,<- List.take_succ_eq_append_getElem hkl])
   have HE:=hd_ (show ws[k].2.2.2=[]->∃ k':Nat,∃ hk:k'<ws.length,(k:Int)=(k':Int)∧ws[k'].2.2.2=[]∧fltW (ws.take k')=ws.take k' from fun h=>⟨k,hkl,rfl,h,HN.out⟩)
   clear hbk
   generalize ws[k]'hkl=y at c0 c1 HY HE
   obtain ⟨f,A,c,L⟩:=y
   simp only [slv] at c0 c1 HY HE
   obtain ⟨nl,hnl⟩:∃ n,L.length=n:=⟨_,rfl⟩
   rw [hnl] at c1
   have HNL:=hd_ hnl
   clear hnl
   go_wp2_with fail
   refine (isE_any f A nl c wr).mono ?_
   rintro e w1 ⟨rfl,hb1⟩
   have B2:=hd_ (bt_ B1.out hb1)
   clear hb1 c0 c1
   by_cases h0:nl=0
   ·rw [decide_eq_true h0]
    have hx:=hd_ (HE.out (List.length_eq_zero_iff.1 (by rw [HNL.out];exact h0)))
    clear h0
    go_wp2_with fail
    go_ret
    exact ⟨_,rfl,.inr hx.out,B2.out⟩
   ·rw [decide_eq_false h0]
    have hx:=hd_ (HY.out (fun e=>h0 (by rw [<- HNL.out,e];rfl)))
    clear h0
    go_wp2_with fail
    go_roundw
    case rel=>exact ⟨k+1,by omega,by go_num,hx,B2.out⟩
    case measure=>simp [intOf];omega
  ·obtain rfl:N=k:=by omega
   have hlt':¬ (N:Int)<(N:Int):=by omega
   go_wp2_with fail
   go_ret
   refine ⟨_,rfl,.inl ⟨rfl,fun x hx=>?_⟩,B1.out⟩
   have h:=HN.out
   rw [List.take_of_length_le (by rw [HL.out];exact Nat.le_refl _)] at h
   rw [<- h] at hx
   have:=(List.mem_filter.1 hx).2
   intro e
   rw [e] at this
   cases this
def DelOut (ga N:Nat) (ws:List WM) (w:World) (e:Ending) (w':World):Prop :=
 ∃ m,e=.returned (.slice (some ⟨ga,0,none⟩) m N)∧(fltW ws).length=m∧Chg w w' (fun k=>k=ga)∧∃ zs,Blk w' ga 87 (wcells (fltW ws)++zs).toArray∧(wcells (fltW ws)++zs).length=N*2
theorem delW_any (ga N:Nat) (ws:List WM) (w:World) (hb:Blk w ga 87 (wcells ws).toArray) (hl:ws.length=N) (hn:N<=100000) :
  Calls Tryz.prog 51 #[.slice (some ⟨ga,0,none⟩) N N,.func (.func 52) #[] #[]] w (DelOut ga N ws w):=by
 have HI:=hd_ (indexW_any ga N ws w hb hl hn)
 have HL:=hd_ hl
 have HB:=hd_ hb
 obtain ⟨RR,hRR⟩:∃ R,DelOut ga N ws w=R:=⟨_,rfl⟩
 have HRR:=hd_ hRR
 rw [hRR]
 clear hb hl hRR
 go_enter Tryz.func51,Tryz.ntmps51
 go_wp2_with fail
 refine HI.out.mono ?_
 rintro e w1 ⟨i,rfl,hi,hb1⟩
 have B1:=hd_ hb1
 clear hb1 HI
 rcases hi with ⟨rfl,hall⟩|⟨k,hk,rfl,hke,hkf⟩
 ·have HA:=hd_ hall
  clear hall
  go_wp2_with fail
  rw [<- HRR.out]
  have hf:=fltW_all HA.out
  exact ⟨N,rfl,by rw [hf,HL.out],Chg.of_below B1.out _,[],by rw [hf,List.append_nil];exact HB.out.keep B1.out,by rw [hf,List.append_nil,wcells_len,HL.out]⟩
 have hkN:k<N:=by rw [<- HL.out];exact hk
 have hkn1:((k:Int)==-1)=false:=by rw [beq_eq_false_iff_ne];omega
 have HF1:=hd_ (show fltW (ws.take (k+1))=ws.take k by rw [fltW_no hk hke,hkf])
 have HD1:=hd_ (show delC ws (k+1)=wcells ws from by
  unfold delC
  rw [HF1.out,List.length_take,Nat.min_eq_left (Nat.le_of_lt hk)]
  have e:wcells ws=wcells (ws.take k)++wcells (ws.drop k):=by rw [<- wcells_app,List.take_append_drop]
  have h2:(wcells (ws.take k)).length=k*2:=by rw [wcells_len,List.length_take,Nat.min_eq_left (Nat.le_of_lt hk)]
  rw [e,List.drop_left' h2])
 have HN1:=hd_ (show (fltW (ws.take (k+1))).length=k by rw [HF1.out,List.length_take,Nat.min_eq_left (Nat.le_of_lt hk)])
 clear hke hkf
 have M1:=hd_ (show Blk w1 ga 87 (delC ws (k+1)).toArray by rw [HD1.out];exact HB.out.keep B1.out)
 have C1:=hd_ (show Chg w w1 (fun k=>k=ga) from Chg.of_below B1.out _)
 go_wp2_with fail
 go_loopw [5,6] (fun v5 v6 wx=>∃ i j:Nat,i<j∧j<=N∧v5=.int .i64 (i:Int)∧v6=.int .i64 (j:Int)∧Hid ((fltW (ws.take j)).length=i)∧Blk wx ga 87 (delC ws j).toArray∧Chg w wx (fun k=>k=ga)) (fun _ v6 _=>N-(intOf v6).toNat)
 case atStart=>exact ⟨k,k+1,by omega,by omega,rfl,by go_num,HN1,M1.out,C1.out⟩
 case round =>
  clear M1 C1 HF1 HD1 HN1
  obtain ⟨i,j,hij,hj,rfl,rfl,HN1,hm,hc⟩:=hrel
  have M1:=hd_ hm
  have C1:=hd_ hc
  clear hm hc
  by_cases hjN:j<N
  case neg =>
   obtain rfl:N=j:=by omega
   have hlt:¬ (N:Int)<(N:Int):=by omega
   have hfl:ws.take N=ws:=List.take_of_length_le (by rw [HL.out];exact Nat.le_refl _)
   rw [hfl] at HN1
   have hdl:delC ws N=wcells (fltW ws)++(wcells ws).drop (i*2):=by unfold delC;rw [hfl,HN1.out]
   have HDL:=hd_ hdl
   have hlen:(delC ws N).length=N*2:=by rw [delC_len (by rw [HL.out];exact Nat.le_refl _),HL.out]
   have HLEN:=hd_ hlen
   have hcl:∀ ty,(Builtin.clear_ #[53] ty #[.slice (some ⟨ga,i*2,none⟩) (N-i) (N-i)]).run Tryz.prog wr=.ok (.tuple #[]) (wr.setCells ga (i*2) (Builtin.zeroCells (Value.agg #[.int .i64 0,.slice none 0 0]).cells (N-i)).toList):=fun ty=>by
    refine run_clear_rows wr 53 87 ty _ 2 Tryz.underlying53 zero_wire zeroW_size zeroW_one ga (i*2) (N-i) (N-i) (by omega) (fun q hq=>?_) (fun q hq=>?_)
    ·rw [M1.out.cell (i*2+q),List.getElem?_toArray,List.getElem?_eq_getElem (by rw [hlen];omega)];rfl
    ·exact M1.out.free (i*2+q)
   have HST:=hd_ (Blk.setCells (Builtin.zeroCells (Value.agg #[.int .i64 0,.slice none 0 0]).cells (N-i)).toList (delC ws N) (i*2) M1.out (by rw [Array.length_toList,zeroW_size,hlen];omega))
   have HCS:=hd_ (Chg.setCells ga (Builtin.zeroCells (Value.agg #[.int .i64 0,.slice none 0 0]).cells (N-i)).toList (i*2) wr)
   have HZL:=hd_ (show (Builtin.zeroCells (Value.agg #[.int .i64 0,.slice none 0 0]).cells (N-i)).toList.length=(N-i)*2 by rw [Array.length_toList,zeroW_size])
   have hin:(i:Int)<=(N:Int):=by omega
   clear hfl hdl hlen
   generalize (Builtin.zeroCells (Value.agg #[.int .i64 0,.slice none 0 0]).cells (N-i)).toList=zs at hcl HST HCS HZL
   go_wp2_with (simp only [hcl])
   rw [<- HRR.out]
   have hw:(wcells (fltW ws)).length=i*2:=by rw [wcells_len,HN1.out]
   have h1:=HST.out
   rw [HZL.out,HDL.out,List.take_left' hw,List.drop_eq_nil_of_le (by rw [<- HDL.out,HLEN.out];omega),List.append_nil] at h1
   exact ⟨i,rfl,HN1.out,(C1.out.trans HCS.out).mono' (fun k hk=>hk.elim id id),zs,h1,by rw [List.length_append,hw,HZL.out];omega⟩
  have hjN':(j:Int)<(N:Int):=by omega
  have hjl:j<ws.length:=by rw [HL.out];exact hjN
  have c0:=M1.out.cell (j*2)
  have c1:=M1.out.cell (j*2+1)
  rw [List.getElem?_toArray,delC_get (by rw [HN1.out];omega),(wcells_get ws j hjl).1] at c0
  rw [List.getElem?_toArray,delC_get (by rw [HN1.out];omega),(wcells_get ws j hjl).2] at c1
  have HNO:=hd_ (show ws[j].2.2.2=[]->(fltW (ws.take (j+1))).length=i∧delC ws (j+1)=delC ws j from fun h=>by
   unfold delC;rw [fltW_no hjl h];exact ⟨HN1.out,rfl⟩)
  have HYES:=hd_ (show ws[j].2.2.2≠[]->(fltW (ws.take (j+1))).length=i+1∧delC ws (j+1)=(delC ws j).take (i*2)++[.int .i64 ws[j].1,slv ws[j].2]++(delC ws j).drop (i*2+2) from fun h=>by
   have h2:=delC_next hjl h
   rw [HN1.out] at h2
   exact ⟨by rw [fltW_yes hjl h,List.length_append,HN1.out];rfl,h2⟩)
  have HDL:=hd_ (show (delC ws j).length=N*2 by rw [delC_len (by omega),HL.out])
  generalize ws[j]'hjl=y at c0 c1 HNO HYES
  obtain ⟨f,A,c,L⟩:=y
  simp only [slv] at c0 c1 HNO HYES
  obtain ⟨nl,hnl⟩:∃ n,L.length=n:=⟨_,rfl⟩
  rw [hnl] at c1 HYES
  have HNL:=hd_ hnl
  clear hnl
  have T2:=hd_ (Blk.made wr 87 #[.int .i64 f,.slice A nl c])
  have M2:=hd_ (M1.out.alloc (.cells #[.int .i64 f,.slice A nl c] 87))
  have C2:=hd_ (C1.out.belowB (bn_ wr (.cells #[.int .i64 f,.slice A nl c] 87)))
  have hgs:ga<wr.heap.size:=M1.out.lt
  go_upto_region 8 with (fail)
  generalize wr.alloc (.cells #[.int .i64 f,.slice A nl c] 87)=w2 at T2 M2 C2 ⊢
  generalize wr.heap.size=g7 at T2 hgs ⊢
  have t0:=T2.out.cell 0
  have t1:=T2.out.cell 1
  clear c0 c1
  go_wp2_with fail
  refine (isE_any f A nl c w2).mono ?_
  rintro e w3 ⟨rfl,hb3⟩
  have M3:=hd_ (M2.out.keep hb3)
  have C3:=hd_ (C2.out.belowB hb3)
  have T3:=hd_ (T2.out.keep hb3)
  clear hb3 t0 t1
  by_cases h0:nl=0
  ·rw [decide_eq_true h0]
   have hx:=HNO.out (List.length_eq_zero_iff.1 (by rw [HNL.out];exact h0))
   have HX:=hd_ hx
   clear h0 hx
   go_wp2_with fail
   go_roundw
   case rel=>exact ⟨i,j+1,by omega,by omega,rfl,by go_num,hd_ HX.out.1,by rw [HX.out.2];exact M3.out,C3.out⟩
   case measure=>simp [intOf];omega
  ·rw [decide_eq_false h0]
   have hx:=HYES.out (fun e=>h0 (by rw [<- HNL.out,e];rfl))
   have HX:=hd_ hx
   have t0:=T3.out.cell 0
   have t1:=T3.out.cell 1
   have hiN:(i:Int)<(N:Int):=by omega
   have d0:=M3.out.cell (i*2)
   have d1:=M3.out.cell (i*2+1)
   obtain ⟨v0,hv0⟩:∃ v,(delC ws j)[i*2]? = some v:=⟨_,List.getElem?_eq_getElem (by rw [HDL.out];omega)⟩
   obtain ⟨v1,hv1⟩:∃ v,(delC ws j)[i*2+1]? = some v:=⟨_,List.getElem?_eq_getElem (by rw [HDL.out];omega)⟩
   rw [List.getElem?_toArray,hv0] at d0
   rw [List.getElem?_toArray,hv1] at d1
   have f0:=M3.out.free (i*2)
   have f1:=M3.out.free (i*2+1)
   have HST:=hd_ (Blk.setCells [.int .i64 f,.slice A nl c] (delC ws j) (i*2) M3.out (by rw [HDL.out];simp;omega))
   have HCS:=hd_ ((C3.out.trans (Chg.setCells ga [.int .i64 f,.slice A nl c] (i*2) w3)).mono' (Y:=fun k=>k=ga) (fun k hk=>hk.elim id id))
   clear h0 hx hv0 hv1
   go_wp2_with fail
   go_roundw
   case rel=>exact ⟨i+1,j+1,by omega,by omega,by go_num,by go_num,hd_ HX.out.1,by rw [HX.out.2];exact HST.out,HCS.out⟩
   case measure=>simp [intOf];omega
end Go.Proofs.YtmkiphadkmodnaaGreat
namespace Go.Proofs.YtmkiphadkmodnaaGreat
open Go.RowKit
section
variable {α κ : Type} [Inhabited α] [DecidableEq κ]
def cptTo (f:α->κ) (L:List α):Nat->List α
 | 0=>[]
 | m+1=>if m=0∨f (L.getD m default)≠f (L.getD (m-1) default) then cptTo f L m++[L.getD m default] else cptTo f L m
def cpt (f:α->κ) (L:List α):List α:=cptTo f L L.length
theorem cptTo_new {f:α->κ} {L:List α} {m:Nat} (h:m=0∨f (L.getD m default)≠f (L.getD (m-1) default)):cptTo f L (m+1)=cptTo f L m++[L.getD m default]:=by rw [cptTo,if_pos h]
theorem cptTo_old {f:α->κ} {L:List α} {m:Nat} (h0:m≠0) (h:f (L.getD m default)=f (L.getD (m-1) default)):cptTo f L (m+1)=cptTo f L m:=by rw [cptTo,if_neg (by rintro (h1|h1);exact h0 h1;exact h1 h)]
theorem cptTo_len (f:α->κ) (L:List α):∀ m,(cptTo f L m).length<=m
 | 0=>Nat.le_refl _
 | m+1=>by
  have ih:=cptTo_len f L m
  unfold cptTo
  split
  ·rw [List.length_append];simp;omega
  ·omega
theorem cptTo_all {f:α->κ} {L:List α}:∀ m,m<=L.length->(∀ j,0<j->j<m->f (L.getD j default)≠f (L.getD (j-1) default))->cptTo f L m=L.take m
 | 0,_,_=>by simp [cptTo]
 | m+1,hm,h=>by
  have ih:=cptTo_all m (by omega) (fun j h1 h2=>h j h1 (by omega))
  rw [cptTo_new,ih,List.take_succ_eq_append_getElem (show m<L.length by omega)]
  ·congr 2
   rw [List.getD_eq_getElem?_getD,List.getElem?_eq_getElem (show m<L.length by omega)];rfl
  ·rcases Nat.eq_zero_or_pos m with e|e
   ·exact .inl e
   ·exact .inr (h m e (by omega))
end
def CptM (w:World) (g:Nat) (t:TypeId) (O:List Value) (sz:Nat) (P:List Value) (m:Nat):Prop :=
 ∃ cur:List Value,Blk w g t cur.toArray∧cur.length=O.length∧cur.take P.length=P∧cur.drop ((m-1)*sz)=O.drop ((m-1)*sz)
theorem CptM.start {w:World} {g:Nat} {t:TypeId} {O:List Value} {sz:Nat} {P:List Value} {m:Nat} (h:Blk w g t O.toArray) (hp:O.take P.length=P):CptM w g t O sz P m:=⟨O,h,rfl,hp,rfl⟩
theorem CptM.lt {w:World} {g:Nat} {t:TypeId} {O:List Value} {sz:Nat} {P:List Value} {m:Nat} (h:CptM w g t O sz P m):g<w.heap.size:=by obtain ⟨cur,hb,_⟩:=h;exact hb.lt
theorem CptM.keep {w w':World} {g:Nat} {t:TypeId} {O:List Value} {sz:Nat} {P:List Value} {m:Nat} (h:CptM w g t O sz P m) (hb:Below w.heap.size w w'):CptM w' g t O sz P m:=by
 obtain ⟨cur,h1,h2⟩:=h
 exact ⟨cur,h1.keep hb,h2⟩
theorem CptM.more {w:World} {g:Nat} {t:TypeId} {O:List Value} {sz:Nat} {P:List Value} {m m':Nat} (h:CptM w g t O sz P m) (hm:m<=m'):CptM w g t O sz P m':=by
 obtain ⟨cur,h1,h2,h3,h4⟩:=h
 refine ⟨cur,h1,h2,h3,?_⟩
 have e:(m'-1)*sz=(m-1)*sz+((m'-1)*sz-(m-1)*sz):=by have:=Nat.mul_le_mul_right sz (show m-1<=m'-1 by omega);omega
 rw [e,<- List.drop_drop,h4,List.drop_drop]
theorem CptM.cell {w:World} {g:Nat} {t:TypeId} {O:List Value} {sz:Nat} {P:List Value} {m:Nat} (h:CptM w g t O sz P m) {i:Nat} (hi:(m-1)*sz<=i):w.cell? ⟨g,i,none⟩=O[i]?:=by
 obtain ⟨cur,h1,h2,h3,h4⟩:=h
 rw [h1.cell i]
 have e:i=(m-1)*sz+(i-(m-1)*sz):=by omega
 have h5:=congrArg (fun l:List Value=>l[i-(m-1)*sz]?) h4
 simp only [List.getElem?_drop] at h5
 rw [<- e] at h5
 simpa using h5
theorem CptM.there {w:World} {g:Nat} {t:TypeId} {O:List Value} {sz:Nat} {P:List Value} {m:Nat} (h:CptM w g t O sz P m) {i:Nat} (hi:i<O.length):∃ v,w.cell? ⟨g,i,none⟩=some v∧w.frozen? ⟨g,i,none⟩=false:=by
 obtain ⟨cur,h1,h2,-,-⟩:=h
 have hi':i<cur.length:=by omega
 exact ⟨cur[i],by rw [h1.cell i];simp [hi'],h1.free i⟩
theorem CptM.put {w:World} {g:Nat} {t:TypeId} {O:List Value} {sz:Nat} {P:List Value} {m:Nat} (h:CptM w g t O sz P m) (vs:List Value) (hv:vs.length=sz) (hp:P.length+sz<=m*sz) (hm:m*sz<=O.length):CptM (w.setCells g P.length vs) g t O sz (P++vs) (m+1):=by
 obtain ⟨cur,h1,h2,h3,h4⟩:=h
 refine ⟨_,Blk.setCells vs cur P.length h1 (by omega),?_,?_,?_⟩
 ·simp;omega
 ·rw [h3,List.take_append_of_le_length (by simp),List.length_append,List.take_of_length_le (by simp)]
 ·have hmm:(m-1)*sz+sz=m*sz∨m*sz<=sz:=by
   rcases Nat.eq_zero_or_pos m with e|e
   ·subst e;exact .inr (by omega)
   ·refine .inl ?_
    have:(m-1+1)*sz=m*sz:=by rw [show m-1+1=m by omega]
    rw [<- this,Nat.add_mul];omega
  have hle:(m-1)*sz<=m*sz:=Nat.mul_le_mul_right _ (by omega)
  have h5:cur.drop (m*sz)=O.drop (m*sz):=by
   have e:m*sz=(m-1)*sz+(m*sz-(m-1)*sz):=by omega
   rw [e,<- List.drop_drop,h4,List.drop_drop]
  rw [Nat.add_sub_cancel,List.drop_append,List.drop_drop,List.length_append,List.length_take,Nat.min_eq_left (by omega),List.drop_eq_nil_of_le (by simp;omega),List.nil_append,hv,show P.length+sz+(m*sz-(P.length+sz))=m*sz by omega]
  exact h5
end Go.Proofs.YtmkiphadkmodnaaGreat
namespace Go.Proofs.YtmkiphadkmodnaaGreat
open Go.RowKit
def CptOut (base:Nat) (A:Option Addr) (c:Nat) (L:List Int) (w:World) (r:Ending) (w':World):Prop :=
 r=.returned (.slice A (cpt id L).length c)∧w'.ownsRow base 3 1 (.slice A (cpt id L).length c) (cpt id L).length (ints (cpt id L))∧Below base w w'
theorem cpt_same {L:List Int} (h:∀ j,0<j->j<L.length->L.getD j 0≠L.getD (j-1) 0):cpt id L=L:=by
 unfold cpt
 rw [cptTo_all (f:=id) (L:=L) L.length (Nat.le_refl _) (fun j h1 h2=>h j h1 h2),List.take_length]
theorem below_on {base:Nat} {a w w':World} (h:Below base a w) (k:Below w.heap.size w w') (hs:base<=w.heap.size):Below base a w' :=
 ⟨k.os.trans h.os,k.tape.trans h.tape,k.output.trans h.output,Nat.le_trans h.size k.size,fun i hi=>(k.block i (by omega)).trans (h.block i hi)⟩
theorem below_low {base:Nat} {w w':World} (hb:base<=w.heap.size) (h:Below w.heap.size w w'):Below base w w':=⟨h.os,h.tape,h.output,h.size,fun k hk=>h.block k (by omega)⟩
theorem CptM.own {w:World} {g:Nat} {t:TypeId} {O:List Value} {sz:Nat} {P:List Value} {m c k base:Nat} (h:CptM w g t O sz P m) (zs:List Value) (hk:P.length=k*sz) (hz:k*sz+zs.length<=O.length) (hO:O.length=c*sz) (hc:k<=c) (hcm:c<=maxLen) (hb:base<=g):(w.setCells g (k*sz) zs).ownsRow base t sz (.slice (some ⟨g,0,none⟩) k c) k P:=by
 obtain ⟨cur,h1,h2,h3,h4⟩:=h
 have h5:=Blk.setCells zs cur (k*sz) h1 (by omega)
 refine ⟨hk,.inr ⟨g,c,_,rfl,hb,h5,hc,hcm,by simp;omega,?_⟩⟩
 simp only [List.append_assoc]
 rw [<- hk,h3,List.take_append_of_le_length (by omega),List.take_length]
theorem compact_any (w:World) (base:Nat) (A:Option Addr) (n c:Nat) (L:List Int) (ho:w.ownsRow base 3 1 (.slice A n c) n (ints L)) (hb:base<=w.heap.size) (hn:n<=1000000) :
  Calls Tryz.prog 57 #[.slice A n c] w (CptOut base A c L w):=by
 have hl:L.length=n:=by have:=ho.1;rw [ints_length] at this;omega
 have HO:=hd_ ho
 have HL:=hd_ hl
 have hsame:(∀ j,0<j->j<n->L.getD j 0≠L.getD (j-1) 0)->∀ w',Below w.heap.size w w'->CptOut base A c L w (.returned (.slice A n c)) w':=fun h w' hw=>by
  unfold CptOut
  rw [cpt_same (by rw [hl];exact h),hl]
  exact ⟨rfl,own_keep ho hw,below_low hb hw⟩
 have HS:=hd_ hsame
 have hrd:=Rd.of_own ho
 have HR:=hd_ hrd
 have hnc:=hrd.cap
 by_cases h2:n<2
 ·have h2':(n:Int)<2:=by omega
  clear ho hsame hrd hl
  go_enter Tryz.func57,Tryz.ntmps57
  go_wp2_with fail
  go_ret
  exact HS.out (fun j h1 h2=>by omega) _ br_
 obtain ⟨g,hA,hgb,hgl⟩:=own_some ho (by omega)
 subst hA
 obtain ⟨O,hO,hOt,hcs,hcm⟩:∃ O:List Value,Blk w g 3 O.toArray∧O.take n=ints L∧O.length=c∧c<=maxLen:=by
  rcases ho.2 with ⟨hv,hz⟩|⟨g',cap,cur,hv,hg',hh,h1,h2,h3,h4⟩
  ·omega
  ·injection hv with e1 e2 e3
   injection e1 with e1
   injection e1 with e1
   subst e1 e3
   refine ⟨cur.toList,?_,by simpa using h4,by simpa using h3,h2⟩
   simpa using (show Blk w g 3 cur from hh)
 have HOB:=hd_ hO
 have HOT:=hd_ hOt
 have hg63:c<=9223372036854775807:=by unfold maxLen at hcm;omega
 have HCM:=hd_ hcm
 have h2':¬ (n:Int)<2:=by omega
 have hOget:∀ j,j<n->O[j]? = some (.int .i64 (L.getD j 0)):=fun j hj=>by
  have h:=congrArg (fun l:List Value=>l[j]?) hOt
  simp only [List.getElem?_take_of_lt hj] at h
  rw [h,ints,List.getElem?_map,List.getElem?_eq_getElem (by omega),List.getD_eq_getElem?_getD,List.getElem?_eq_getElem (by omega)]
  rfl
 have HG:=hd_ hOget
 clear ho hsame hrd hl hO hOt hcm hOget
 go_enter Tryz.func57,Tryz.ntmps57
 go_wp2_with fail
 go_loopw [3] (fun i wx=>∃ k:Nat,1<=k∧k<=n∧i=.int .i64 (k:Int)∧(∀ j,0<j->j<k->L.getD j 0≠L.getD (j-1) 0)∧Below w.heap.size w wx) (fun i _=>n-(intOf i).toNat)
 case atStart=>exact ⟨1,by omega,by omega,rfl,fun j h1 h2=>absurd h2 (by omega),br_⟩
 case round =>
  obtain ⟨k,hk1,hk,rfl,hdis,hB⟩:=hrel
  have B1:=hd_ hB
  have HD:=hd_ hdis
  clear hB hdis
  by_cases hlt:k<n
  case neg =>
   obtain rfl:k=n:=by omega
   go_wp2_with fail
   go_ret
   exact HS.out HD.out _ B1.out
  have hlt':(k:Int)<(n:Int):=by omega
  obtain ⟨k0,hk0⟩:∃ q,k-1=q:=⟨_,rfl⟩
  have hk0':(k:Int)-1=(k0:Int):=by omega
  have hkw:IntKind.i64.wrap (k0:Int)=(k0:Int):=IntWalk.i64_in _ (by omega)
  have hk0n:(k0:Int)<(n:Int):=by omega
  have d0:wr.cell? ⟨g,k,none⟩=some (.int .i64 (L.getD k 0)):=(B1.out.cell hgl).trans ((HOB.out.cell k).trans (by simpa using HG.out k hlt))
  have d1:wr.cell? ⟨g,k0,none⟩=some (.int .i64 (L.getD k0 0)):=(B1.out.cell hgl).trans ((HOB.out.cell k0).trans (by simpa using HG.out k0 (by omega)))
  have HEQ:=hd_ (show L.getD k 0=L.getD k0 0->L.getD k 0=L.getD (k-1) 0 by rw [hk0];exact id)
  have HNE:=hd_ (show L.getD k 0≠L.getD k0 0->∀ j,0<j->j<k+1->L.getD j 0≠L.getD (j-1) 0 from fun h j h1 h2=>by
   rcases Nat.lt_or_ge j k with h3|h3
   ·exact HD.out j h1 h3
   ·obtain rfl:j=k:=by omega
    rw [hk0];exact h)
  by_cases hxy:L.getD k 0=L.getD k0 0
  case neg =>
   have HNX:=hd_ (HNE.out hxy)
   clear HNE HEQ
   generalize L.getD k 0=x at d0 hxy
   generalize L.getD k0 0=y at d1 hxy
   have hdx:(x==y)=false:=by simp [hxy]
   go_wp2_with fail
   refine wp_region_still_in (by kernel_rfl) (by kernel_rfl) fun St9 ne9 V9 hV9 hS9=>?_
   have qd0:=still_cell hV9 d0
   have qd1:=still_cell hV9 d1
   repeat (first|go_big_quiet_step (fail)|quiet_step (fail))
   refine wpQuiet_nil ?_
   intro _ hw9
   obtain ⟨s9,rfl⟩:=hw9
   have hb9:=hV9 s9
   clear qd0 qd1 hS9
   generalize V9 s9=w9 at hb9 ⊢
   clear hV9 s9 V9 ne9 St9
   have B9:=hd_ (bt_ B1.out hb9)
   clear hb9 d0 d1
   go_wp2_with fail
   go_roundw
   case rel=>exact ⟨k+1,by omega,by omega,by go_num,HNX.out,B9.out⟩
   case measure=>simp [intOf];omega
  have HQ:=hd_ (HEQ.out hxy)
  rw [<- hxy] at d1
  clear HNE HEQ hxy
  generalize L.getD k 0=x at d0 d1
  go_wp2_with fail
  refine wp_region_still_in (by kernel_rfl) (by kernel_rfl) fun St9 ne9 V9 hV9 hS9=>?_
  have qd0:=still_cell hV9 d0
  have qd1:=still_cell hV9 d1
  repeat (first|go_big_quiet_step (fail)|quiet_step (fail))
  refine wpQuiet_nil ?_
  intro _ hw9
  obtain ⟨s9,rfl⟩:=hw9
  have hb9:=hV9 s9
  clear qd0 qd1 hS9
  generalize V9 s9=w9 at hb9 ⊢
  clear hV9 s9 V9 ne9 St9
  have B9:=hd_ (bt_ B1.out hb9)
  clear hb9 d0 d1
  go_wp2_with fail
  have hpre:cptTo id L (k+1)=L.take k:=by
   have h0:L.getD k default=L.getD (k-1) default:=HQ.out
   rw [cptTo_old (f:=id) (by omega) h0,cptTo_all (f:=id) k (by rw [HL.out];omega) (fun j h1 h2=>HD.out j h1 h2)]
  have hst:CptM w9 g 3 O 1 (ints (cptTo id L (k+1))) (k+1):=by
   refine CptM.start (HOB.out.keep B9.out) ?_
   rw [hpre,ints_length,List.length_take,Nat.min_eq_left (by rw [HL.out];omega)]
   have h:=congrArg (List.take k) HOT.out
   rw [List.take_take,Nat.min_eq_left (by omega)] at h
   rw [h];simp [ints,List.map_take]
  have hq0:(cptTo id L (k+1)).length=k:=by rw [hpre,List.length_take,HL.out,Nat.min_eq_left (by omega)]
  have HST:=hd_ hst
  have HQ0:=hd_ hq0
  clear hpre hst hq0 hk0 hk0' hkw hk0n
  go_loopw [3,5] (fun v3 v5 wx=>∃ (q e:Nat),1<=e∧k+e<=n∧q+1<=k+e∧v3=.int .i64 (q:Int)∧v5=.int .i64 (e:Int)∧(cptTo id L (k+e)).length=q∧CptM wx g 3 O 1 (ints (cptTo id L (k+e))) (k+e)∧Below base w wx) (fun _ v5 _=>n-k-(intOf v5).toNat)
  case atStart=>exact ⟨k,1,by omega,by omega,by omega,rfl,rfl,HQ0.out,HST.out,below_low hb B9.out⟩
  case round =>
   obtain ⟨q,e,he1,hen,hqe,rfl,rfl,hql,hM,hBB⟩:=hrel
   have M3:=hd_ hM
   have B3:=hd_ hBB
   have HQL:=hd_ hql
   clear hM hBB hql HST HQ0
   by_cases hend:k+e<n
   case neg =>
    have he2:k+e=n:=by omega
    have hlt3:¬ (e:Int)<((n-k:Nat):Int):=by omega
    have hsub:((n-k:Nat):Int)=(e:Int):=by omega
    have hfin:cpt id L=cptTo id L (k+e):=by unfold cpt;rw [HL.out,he2]
    have HF:=hd_ hfin
    have hcl:∀ ty,(Builtin.clear_ #[25] ty #[.slice (some ⟨g,q,none⟩) (n-q) (c-q)]).run Tryz.prog wr=.ok (.tuple #[]) (wr.setCells g q (List.replicate (n-q) (.int .i64 0))):=fun ty=>by
     refine Lib.run_clear_slice wr 25 3 ty (.int .i64 0) Tryz.underlying25 (fun w=>by kernel_rfl) rfl rfl g q (n-q) (c-q) (by omega) (fun j hj=>?_) (fun j hj=>?_)
     ·obtain ⟨v,h1,-⟩:=M3.out.there (i:=q+j) (by omega)
      rw [h1];rfl
     ·obtain ⟨v,-,h1⟩:=M3.out.there (i:=q+j) (by omega)
      exact h1
    have HOWN:=hd_ (M3.out.own (k:=q) (c:=c) (base:=base) (List.replicate (n-q) (.int .i64 0)) (by rw [ints_length,HQL.out];omega) (by simp;omega) (by omega) (by omega) HCM.out hgb)
    have hqn:(q:Int)<=(n:Int):=by omega
    have hqc:(q:Int)<=(c:Int):=by omega
    clear hfin
    go_wp2_with (simp only [hcl])
    go_ret
    unfold CptOut
    rw [HF.out,HQL.out]
    have h9:=HOWN.out
    rw [Nat.mul_one] at h9
    exact ⟨rfl,h9,(Chg.setCells g _ _ _).below B3.out (Nat.le_trans hb B3.out.size) (fun j hj=>by rw [hj];exact hgb)⟩
   have hlt3:(e:Int)<((n-k:Nat):Int):=by omega
   obtain ⟨e0,he0⟩:∃ q,e-1=q:=⟨_,rfl⟩
   have he0':(e:Int)-1=(e0:Int):=by omega
   have hew:IntKind.i64.wrap (e0:Int)=(e0:Int):=IntWalk.i64_in _ (by omega)
   have he0n:(e0:Int)<((n-k:Nat):Int):=by omega
   have d0:wr.cell? ⟨g,k+e,none⟩=some (.int .i64 (L.getD (k+e) 0)):=(M3.out.cell (i:=k+e) (by omega)).trans (HG.out (k+e) hend)
   have d1:wr.cell? ⟨g,k+e0,none⟩=some (.int .i64 (L.getD (k+e0) 0)):=(M3.out.cell (i:=k+e0) (by omega)).trans (HG.out (k+e0) (by omega))
   have hke0:k+e-1=k+e0:=by omega
   by_cases hxy:L.getD (k+e) 0=L.getD (k+e0) 0
   ·have hsm:cptTo id L (k+(e+1))=cptTo id L (k+e):=cptTo_old (f:=id) (m:=k+e) (by omega) (by rw [hke0];exact hxy)
    have HSM:=hd_ hsm
    rw [<- hxy] at d1
    clear hsm hxy
    generalize L.getD (k+e) 0=x at d0 d1
    go_wp2_with fail
    refine wp_region_still_in (by kernel_rfl) (by kernel_rfl) fun St8 ne8 V8 hV8 hS8=>?_
    have qd0:=still_cell hV8 d0
    have qd1:=still_cell hV8 d1
    repeat (first|go_big_quiet_step (fail)|quiet_step (fail))
    refine wpQuiet_nil ?_
    intro _ hw8
    obtain ⟨s8,rfl⟩:=hw8
    have hb8:=hV8 s8
    clear qd0 qd1 hS8
    generalize V8 s8=w8 at hb8 ⊢
    clear hV8 s8 V8 ne8 St8
    have BB8:=hd_ ((below_on B3.out hb8 (Nat.le_trans hgb (Nat.le_of_lt M3.out.lt))))
    have M8:=hd_ ((M3.out.keep hb8).more (show k+e<=k+(e+1) by omega))
    clear hb8 d0 d1
    go_wp2_with fail
    go_roundw
    case rel=>exact ⟨q,e+1,by omega,by omega,by omega,rfl,by go_num,by rw [HSM.out];exact HQL.out,by rw [HSM.out];exact M8.out,BB8.out⟩
    case measure=>simp [intOf];omega
   ·have hsm:cptTo id L (k+(e+1))=cptTo id L (k+e)++[L.getD (k+e) 0]:=cptTo_new (f:=id) (m:=k+e) (.inr (by rw [hke0];exact hxy))
    have HSM:=hd_ hsm
    generalize L.getD (k+e) 0=x at d0 hxy HSM
    generalize L.getD (k+e0) 0=y at d1 hxy
    have hdx:(x==y)=false:=by simp [hxy]
    have hdx2:(x != y)=true:=by simp [hxy]
    clear hsm
    go_wp2_with fail
    refine wp_region_still_in (by kernel_rfl) (by kernel_rfl) fun St8 ne8 V8 hV8 hS8=>?_
    have qd0:=still_cell hV8 d0
    have qd1:=still_cell hV8 d1
    repeat (first|go_big_quiet_step (fail)|quiet_step (fail))
    refine wpQuiet_nil ?_
    intro _ hw8
    obtain ⟨s8,rfl⟩:=hw8
    have hb8:=hV8 s8
    clear qd0 qd1 hS8
    generalize V8 s8=w8 at hb8 ⊢
    clear hV8 s8 V8 ne8 St8
    have d8:=(hb8.cell (p:=⟨g,k+e,none⟩) M3.out.lt).trans d0
    have BB8:=hd_ ((below_on B3.out hb8 (Nat.le_trans hgb (Nat.le_of_lt M3.out.lt))))
    have M8:=hd_ (M3.out.keep hb8)
    obtain ⟨v0,f0,f1⟩:=M8.out.there (i:=q) (by omega)
    have M9:=M8.out.put [.int .i64 x] rfl (by rw [ints_length,HQL.out];omega) (by omega)
    have e9:ints (cptTo id L (k+e))++[.int .i64 x]=ints (cptTo id L (k+(e+1))):=by rw [HSM.out,ints_append];rfl
    rw [ints_length,HQL.out,e9] at M9
    have M9':=hd_ (show CptM (w8.setCell ⟨g,q,none⟩ (.int .i64 x)) g 3 O 1 (ints (cptTo id L (k+(e+1)))) (k+(e+1)) from M9)
    have B9':=hd_ (BB8.out.setCell (p:=⟨g,q,none⟩) hgb (.int .i64 x))
    have hqn:(q:Int)<(n:Int):=by omega
    clear hb8 d0 d1 M9 e9
    go_wp2_with fail
    go_roundw
    case rel=>exact ⟨q+1,e+1,by omega,by omega,by omega,by go_num,by go_num,by rw [HSM.out,List.length_append,HQL.out];rfl,M9'.out,B9'.out⟩
    case measure=>simp [intOf];omega
end Go.Proofs.YtmkiphadkmodnaaGreat
namespace Go.Proofs.YtmkiphadkmodnaaGreat
open Go.RowKit
structure SLs (w:World) (A:Option Addr) (c:Nat) (ls:List SL):Prop where
 row:Rd w 1 A ls.length c (ls.map slv)
 all:∀ l ∈ ls,Rd w 1 l.1 l.2.2.length l.2.1 (ints l.2.2)
theorem SLs.later {w w':World} {A:Option Addr} {c:Nat} {ls:List SL} (h:SLs w A c ls) (hb:Below w.heap.size w w'):SLs w' A c ls:=⟨h.row.later hb,fun l hl=>(h.all l hl).later hb⟩
theorem SLs.at_ {w:World} {A:Option Addr} {c:Nat} {ls:List SL} (h:SLs w A c ls) {k:Nat} (hk:k<ls.length):∃ a,A=some a∧a.block<w.heap.size∧w.cell? (a.add k)=some (slv ls[k]):=by
 obtain ⟨a,hA,hb,hr⟩:=h.row.at1 hk
 refine ⟨a,hA,hb,?_⟩
 rw [hr,List.getD_eq_getElem?_getD,List.getElem?_map,List.getElem?_eq_getElem hk]
 rfl
theorem cptTo_full {L:List Int}:∀ m,(cptTo id L m).length=m->∀ j,0<j->j<m->L.getD j default≠L.getD (j-1) default
 | 0,_,j,h0,hj=>by omega
 | m+1,h,j,h0,hj=>by
  by_cases hc:m=0∨id (L.getD m default)≠id (L.getD (m-1) default)
  ·rw [cptTo_new hc,List.length_append] at h
   rcases Nat.lt_succ_iff_lt_or_eq.1 hj with h1|h1
   ·exact cptTo_full m (by simpa using h) j h0 h1
   ·subst h1
    rcases hc with hc|hc
    ·omega
    ·exact hc
  ·have h1:m≠0:=fun e=>hc (.inl e)
   have h2:id (L.getD m default)=id (L.getD (m-1) default):=Classical.byContradiction fun e=>hc (.inr e)
   rw [cptTo_old h1 h2] at h
   have:=cptTo_len (f:=id) (L:=L) m
   omega
theorem cpt_full (L:List Int):(cpt id L).length=L.length↔NotSame L:=by
 have hd:∀ j,L.getD j default=L.getD j 0:=fun j=>rfl
 constructor
 ·intro h k hk e
  have:=cptTo_full L.length h (k+1) (by omega) hk
  rw [hd,hd] at this
  exact this e.symm
 ·intro h
  rw [cpt_same (fun j h0 hj=>by
   have:=h (j-1) (by omega)
   rw [show j-1+1=j by omega] at this
   exact fun e=>this e.symm)]
def RiseP (E:Int) (l:List Int):Prop:=l.any (badB E)=false∧AscL l
noncomputable instance (E:Int) (l:List Int):Decidable (RiseP E l):=Classical.propDecidable _
theorem badway_any (gg ne cE:Nat) (AE:Option Addr) (A:Option Addr) (n c:Nat) (l:List Int) (w:World) (hr:Rd w 1 A n c (ints l)) (hn:n<=100000) (hg:w.cell? ⟨gg,1,none⟩=some (.slice AE ne cE)) (hne:ne<=10000000) :
  Calls Tryz.prog 54 #[.slice A n c,.pointer (some ⟨gg,0,none⟩)] w fun r w'=>r=.returned (.bool (!decide (RiseP (ne:Int) l)))∧Below w.heap.size w w':=by
 have hl:n=l.length:=by have:=hr.len;rw [ints_length] at this;omega
 have HL:=hd_ hl
 have HR:=hd_ hr
 have HGG:=hd_ (World.block_lt_of_cell? w ⟨gg,1,none⟩ hg)
 have HW:=hd_ (fun (W:World) (hW:Below w.heap.size w W)=>within_any (ne:Int) A n c l W (hr.later hW) hn)
 have HS:=hd_ (fun (W:World) (hW:Below w.heap.size w W)=>isSorted_any A n c l W (hr.later hW) hn)
 have HC:=hd_ (fun (W:World) (hW:Below w.heap.size w W)=>clone_ints W A n c l (hr.later hW) (by omega))
 have HRD:=hd_ (show ∀ b1 b2 b3:Bool,l.any (badB (ne:Int))=b1->decide (NotFall l)=b2->decide (NotSame l)=b3->(!decide (RiseP (ne:Int) l))=(b1||(!b2||!b3)) from fun b1 b2 b3 h1 h2 h3=>by
  have e:decide (RiseP (ne:Int) l)=(!b1&&(b2&&b3)):=by
   rw [<- h2,<- h3]
   have:RiseP (ne:Int) l↔b1=false∧NotFall l∧NotSame l:=by unfold RiseP;rw [asc_iff,h1]
   by_cases hR:RiseP (ne:Int) l
   ·obtain ⟨r1,r2,r3⟩:=this.1 hR
    rw [decide_eq_true hR,r1,decide_eq_true r2,decide_eq_true r3];rfl
   ·rw [decide_eq_false hR]
    cases b1 with
    | true=>rfl
    | false =>
     by_cases h2:NotFall l
     ·have:¬ NotSame l:=fun h3=>hR (this.2 ⟨rfl,h2,h3⟩)
      rw [decide_eq_false this,Bool.and_false,Bool.and_false]
     ·rw [decide_eq_false h2,Bool.false_and,Bool.and_false]
  rw [e]
  cases b1 <;> cases b2 <;> cases b3 <;> rfl)
 obtain ⟨b1,hb1⟩:∃ b,l.any (badB (ne:Int))=b:=⟨_,rfl⟩
 obtain ⟨b2,hb2⟩:∃ b,decide (NotFall l)=b:=⟨_,rfl⟩
 obtain ⟨b3,hb3⟩:∃ b,decide (NotSame l)=b:=⟨_,rfl⟩
 rw [HRD.out b1 b2 b3 hb1 hb2 hb3]
 rw [hb1] at HW
 rw [hb2] at HS
 have HB3:=hd_ hb3
 clear hl hr hb1 hb2 hb3 HRD
 go_enter Tryz.func54,Tryz.ntmps54
 go_wp2_with fail
 refine (HW.out w br_).mono ?_
 rintro e w1 ⟨rfl,hb1⟩
 have B1:=hd_ hb1
 clear hb1
 cases b1 with
 | true =>
  go_wp2_with fail
  go_ret
  exact ⟨rfl,B1.out⟩
 | false =>
  go_wp2_with fail
  refine (HS.out w1 B1.out).mono ?_
  rintro e w2 ⟨rfl,hb2⟩
  have B2:=hd_ (bt_ B1.out hb2)
  clear hb2
  cases b2 with
  | false =>
   go_wp2_with fail
   go_ret
   exact ⟨rfl,B2.out⟩
  | true =>
   go_wp2_with fail
   refine (HC.out w2 B2.out).mono ?_
   rintro e w3 ⟨A3,c3,rfl,hb3,ho3⟩
   have B3:=hd_ (bt_ B2.out hb3)
   have HCM:=hd_ (compact_any w3 w2.heap.size A3 n c3 l ho3 hb3.size (by omega))
   have HB23:=hd_ hb3
   clear hb3 ho3
   go_wp2_with fail
   refine HCM.out.mono ?_
   rintro e w4 ⟨rfl,-,hbel⟩
   have B4:=hd_ (bt_ B2.out (HB23.out.trans hbel))
   have hcf:=cpt_full l
   have HCF:=hd_ hcf
   clear hbel hcf HCM
   obtain ⟨m,hm⟩:∃ m,(cpt id l).length=m:=⟨_,rfl⟩
   have HMM:=hd_ hm
   rw [hm]
   clear hm
   cases b3 with
   | true =>
    have hmn:m=n:=by rw [<- HMM.out,HL.out];exact HCF.out.2 (of_decide_eq_true HB3.out)
    have hd:((m:Int) != (n:Int))=false:=by rw [hmn];simp
    clear hmn
    go_wp2_with fail
    go_ret
    exact ⟨rfl,B4.out⟩
   | false =>
    have hmn:¬ m=n:=fun e=>of_decide_eq_false HB3.out (HCF.out.1 (by rw [HMM.out,<- HL.out,e]))
    have hd:((m:Int) != (n:Int))=true:=by rw [bne_iff_ne];omega
    clear hmn
    go_wp2_with fail
    go_ret
    exact ⟨rfl,B4.out⟩
theorem indexR_any (F:FuncId) (hF:∀ (args:Array Value) (w:World),(callFunc F args).run Tryz.prog w=.ok (.enter F args) w) (cap:Value) (bad:List Int->Bool) (w:World) (A:Option Addr) (n c:Nat) (ls:List SL) (hr:SLs w A c ls) (hl:ls.length=n) (hn:n<=100000)
  (hcl:∀ x ∈ ls,∀ W:World,Below w.heap.size w W->Calls Tryz.prog F #[slv x,cap] W fun r w'=>r=.returned (.bool (bad x.2.2))∧Below W.heap.size W w') :
  Calls Tryz.prog 99 #[.slice A n c,.func (.func F) #[] #[cap]] w (IndexA (ls.any fun x=>bad x.2.2) w):=by
 have HL:=hd_ hl
 have HR:=hd_ hr
 have HA:=hd_ hcl
 clear hl hr hcl
 go_enter Tryz.func99,Tryz.ntmps99
 go_wp2_with fail
 go_loopw [8] (fun i wx=>∃ k:Nat,k<=n∧i=.int .i64 (k:Int)∧Hid (((ls.take k).any fun x=>bad x.2.2)=false)∧Below w.heap.size w wx) (fun i _=>n-(intOf i).toNat)
 case atStart=>exact ⟨0,by omega,rfl,hd_ (by simp),br_⟩
 case round =>
  obtain ⟨k,hk,rfl,HN,hB⟩:=hrel
  have B1:=hd_ hB
  clear hB
  by_cases hlt:k<n
  ·have hlt':(k:Int)<(n:Int):=by omega
   have hk':k<ls.length:=by rw [HL.out];exact hlt
   obtain ⟨a,rfl,hab,c0⟩:=(HR.out.later B1.out).at_ hk'
   have HT:=hd_ (show ((ls.take (k+1)).any fun x=>bad x.2.2)=(((ls.take k).any fun x=>bad x.2.2)||bad ls[k].2.2) by
    rw [List.take_succ_eq_append_getElem hk',List.any_append];simp)
   have HM:=hd_ (show bad ls[k].2.2=true->(ls.any fun x=>bad x.2.2)=true from fun hx=>List.any_eq_true.2 ⟨ls[k],List.getElem_mem hk',hx⟩)
   have HCL:=hd_ (HA.out _ (List.getElem_mem hk') wr B1.out)
   generalize ls[k]'hk'=t at c0 HT HM HCL
   obtain ⟨t1,t2,t3⟩:=t
   simp only [slv] at c0 HT HM HCL
   go_wp2_with fail
   refine HCL.out.mono ?_
   rintro e w1 ⟨rfl,hb1⟩
   have B2:=hd_ (bt_ B1.out hb1)
   clear hb1 HCL
   cases ho:bad t3 with
   | true =>
    go_wp2_with fail
    go_ret
    exact ⟨(k:Int),rfl,⟨fun _=>HM.out ho,fun _=>by omega⟩,B2.out⟩
   | false =>
    go_wp2_with fail
    go_roundw
    case rel=>exact ⟨k+1,by omega,by go_num,hd_ (by rw [HT.out,HN.out,ho];rfl),B2.out⟩
    case measure=>simp [intOf];omega
  ·obtain rfl:n=k:=by omega
   have hlt':¬ (n:Int)<(n:Int):=by omega
   go_wp2_with fail
   go_ret
   refine ⟨-1,rfl,⟨fun h=>absurd h (by omega),fun h=>?_⟩,B1.out⟩
   have:=HN.out
   rw [List.take_of_length_le (by rw [HL.out];exact Nat.le_refl _)] at this
   rw [this] at h
   cases h
theorem containsR_any (F:FuncId) (hF:∀ (args:Array Value) (w:World),(callFunc F args).run Tryz.prog w=.ok (.enter F args) w) (cap:Value) (bad:List Int->Bool) (w:World) (A:Option Addr) (n c:Nat) (ls:List SL) (hr:SLs w A c ls) (hl:ls.length=n) (hn:n<=100000)
  (hcl:∀ x ∈ ls,∀ W:World,Below w.heap.size w W->Calls Tryz.prog F #[slv x,cap] W fun r w'=>r=.returned (.bool (bad x.2.2))∧Below W.heap.size W w') :
  Calls Tryz.prog 59 #[.slice A n c,.func (.func F) #[] #[cap]] w fun r w'=>r=.returned (.bool (ls.any fun x=>bad x.2.2))∧Below w.heap.size w w':=by
 have HX:=hd_ (indexR_any F hF cap bad w A n c ls hr hl hn hcl)
 obtain ⟨r,hr2⟩:∃ r,(ls.any fun x=>bad x.2.2)=r:=⟨_,rfl⟩
 rw [hr2] at HX ⊢
 clear hr hcl hr2
 go_enter Tryz.func59,Tryz.ntmps59
 go_wp2_with fail
 refine HX.out.mono ?_
 rintro e w1 ⟨i,rfl,hx,hb1⟩
 have HI:=hd_ hx
 have B1:=hd_ hb1
 clear hx hb1
 by_cases h0:0<=i
 ·have hd:decide (0<=i)=true:=decide_eq_true h0
  have HR:=hd_ (HI.out.1 h0)
  go_wp2_with fail
  go_ret
  exact ⟨by rw [HR.out];rfl,B1.out⟩
 ·have hd:decide (0<=i)=false:=decide_eq_false h0
  have hr:r=false:=by cases r with
   | false=>rfl
   | true=>exact absurd (HI.out.2 rfl) h0
  have HR:=hd_ hr
  clear hr
  go_wp2_with fail
  go_ret
  exact ⟨by rw [HR.out];rfl,B1.out⟩
end Go.Proofs.YtmkiphadkmodnaaGreat
