/- BfM, 36 -/
import Derived.Test.YtmkiphadkmodnaaGreatZBfM35
import Derived.Test.YtmkiphadkmodnaaGreatZBfM0
import Derived.Test.YtmkiphadkmodnaaGreatZBfM33
set_option linter.all false
set_option maxRecDepth 100000
set_option maxHeartbeats 8000000
namespace Go.Proofs.YtmkiphadkmodnaaGreat
open Go.RowKit
def atW (E:List (Int × Int)) (n:Int):List Int:=(E.filter fun e=>e.1==n).map (·.2)
theorem atW_yes {E:List (Int × Int)} {n v:Int}:atW (E++[(n,v)]) n=atW E n++[v]:=by simp [atW]
theorem atW_no {E:List (Int × Int)} {x n v:Int} (h:¬ x=n):atW (E++[(x,v)]) n=atW E n:=by simp [atW,h]
theorem atW_len (E:List (Int × Int)) (n:Int):(atW E n).length<=E.length:=by unfold atW;rw [List.length_map];exact List.length_filter_le _ _
def wFrom (W H T:Int) (P:PK) (S:SPT) (n:Nat):Int :=
 if (n:Int)<P.I then nodeN W H T 2 (S.si.getD n 0) 0 0 else nodeN W H T 0 (S.sb.getD ((n:Int)-P.I).toNat 0%W) (S.sb.getD ((n:Int)-P.I).toNat 0/W) 0
def evIn (W H T t:Int) (l:List Int) (k:Nat):List (Int × Int):=(List.range k).map fun j=>(l.getD j 0,nodeN W H T 1 (t%W) (t/W) (j:Int))
theorem evIn_next (W H T t:Int) (l:List Int) (k:Nat):evIn W H T t l (k+1)=evIn W H T t l k++[(l.getD k 0,nodeN W H T 1 (t%W) (t/W) (k:Int))]:=by
 unfold evIn;rw [List.range_succ,List.map_append];rfl
theorem evIn_len (W H T t:Int) (l:List Int) (k:Nat):(evIn W H T t l k).length=k:=by unfold evIn;rw [List.length_map,List.length_range]
def evTo (W H T:Int) (P:PK) (S:SPT):Nat->List (Int × Int)
 | 0=>[]
 | i+1=>evTo W H T P S i++evIn W H T (S.sb.getD i 0) (inL P.bs i) (inL P.bs i).length
theorem evTo_len (W H T:Int) {P:PK} (S:SPT) (h:∀ b ∈ P.bs,b.l.length<=4):∀ i,(evTo W H T P S i).length<=4*i
 | 0=>by simp [evTo]
 | i+1=>by
  have ih:=evTo_len W H T S h i
  have:(inL P.bs i).length<=4:=by
   unfold inL
   cases hb:P.bs[i]? with
   | none=>simp
   | some b=>exact h b (List.mem_of_getElem? hb)
  rw [evTo,List.length_append,evIn_len]
  omega
def evOut (W H T:Int) (P:PK) (S:SPT) (k:Nat):List (Int × Int):=(List.range k).map fun j=>(P.outs.getD j 0,nodeN W H T 2 (S.so.getD j 0) 0 0)
theorem evOut_next (W H T:Int) (P:PK) (S:SPT) (k:Nat):evOut W H T P S (k+1)=evOut W H T P S k++[(P.outs.getD k 0,nodeN W H T 2 (S.so.getD k 0) 0 0)]:=by
 unfold evOut;rw [List.range_succ,List.map_append];rfl
theorem evOut_len (W H T:Int) (P:PK) (S:SPT) (k:Nat):(evOut W H T P S k).length=k:=by unfold evOut;rw [List.length_map,List.length_range]
def allEv (W H T:Int) (P:PK) (S:SPT):List (Int × Int):=evTo W H T P S P.bs.length++evOut W H T P S P.outs.length
abbrev WP:Type:=Int × List Int
def wAt (W H T:Int) (P:PK) (S:SPT) (n:Nat):WP:=(wFrom W H T P S n,atW (allEv W H T P S) (n:Int))
def wireTo (W H T:Int) (P:PK) (S:SPT) (n:Nat):List WP:=((List.range n).map (wAt W H T P S)).filter fun w=>!w.2.isEmpty
theorem wireTo_yes {W H T:Int} {P:PK} {S:SPT} {n:Nat} (h:(wAt W H T P S n).2≠[]):wireTo W H T P S (n+1)=wireTo W H T P S n++[wAt W H T P S n]:=by
 unfold wireTo
 rw [List.range_succ,List.map_append,List.filter_append]
 simp [h]
theorem wireTo_no {W H T:Int} {P:PK} {S:SPT} {n:Nat} (h:(wAt W H T P S n).2=[]):wireTo W H T P S (n+1)=wireTo W H T P S n:=by
 unfold wireTo
 rw [List.range_succ,List.map_append,List.filter_append]
 simp [h]
def wiresP (W H T:Int) (P:PK) (S:SPT):List WP:=wireTo W H T P S (P.I.toNat+P.bs.length)
abbrev WM:Type:=Int × SL
def wcells (ws:List WM):List Value:=ws.flatMap fun w=>[.int .i64 w.1,slv w.2]
def wpl (ws:List WM):List WP:=ws.map fun w=>(w.1,w.2.2.2)
theorem wcells_len (ws:List WM):(wcells ws).length=ws.length*2:=by
 unfold wcells
 induction ws with
 | nil=>rfl
 | cons w ws ih=>rw [List.flatMap_cons,List.length_append,ih];simp;omega
theorem wcells_app (ws vs:List WM):wcells (ws++vs)=wcells ws++wcells vs:=by unfold wcells;rw [List.flatMap_append]
theorem wcells_get:∀ (ws:List WM) (k:Nat) (hk:k<ws.length),(wcells ws)[k*2]? = some (.int .i64 ws[k].1)∧(wcells ws)[k*2+1]? = some (slv ws[k].2)
 | [],k,h=>by simp at h
 | w::ws,0,_=>by simp [wcells]
 | w::ws,k+1,h=>by
  obtain ⟨h1,h2⟩:=wcells_get ws k (by simpa using h)
  have e:wcells (w::ws)=[.int .i64 w.1,slv w.2]++wcells ws:=rfl
  rw [e,show (k+1)*2=k*2+2 by omega]
  exact ⟨by rw [List.getElem?_append_right (by simp)];simpa using h1,by rw [List.getElem?_append_right (by simp)];simpa using h2⟩
structure WsIn (w:World) (A:Option Addr) (c:Nat) (ws:List WM):Prop where
 row:Rd w 2 A ws.length c (wcells ws)
 all:∀ x ∈ ws,Rd w 1 x.2.1 x.2.2.2.length x.2.2.1 (ints x.2.2.2)
theorem WsIn.later {w w':World} {A:Option Addr} {c:Nat} {ws:List WM} (h:WsIn w A c ws) (hb:Below w.heap.size w w'):WsIn w' A c ws:=⟨h.row.later hb,fun x hx=>(h.all x hx).later hb⟩
structure WW1 (wm:World) (g:Nat) (f:Int) (A:Option Addr) (nl c:Nat) (L:List Int) (wx:World):Prop where
 chg:Chg wm wx (fun k=>k=g)
 box:Blk wx g 87 #[.int .i64 f,.slice A nl c]
 row:wx.ownsRow wm.heap.size 3 1 (.slice A nl c) nl (ints L)
 len:L.length=nl
theorem WW1.keep {wm wx wy:World} {g nl c:Nat} {f:Int} {A:Option Addr} {L:List Int} (h:WW1 wm g f A nl c L wx) (hb:Below wx.heap.size wx wy):WW1 wm g f A nl c L wy:=⟨h.chg.belowB hb,h.box.keep hb,own_keep h.row hb,h.len⟩
theorem WW1.box3 {wm wx w3:World} {g nl c:Nat} {f:Int} {A:Option Addr} {L:List Int} {o:Obj} (h:WW1 wm g f A nl c L wx) (hg:(wx.alloc o).grownBy w3 (Value.slice A nl c).ownBlock):Blk w3 g 87 #[.int .i64 f,.slice A nl c] :=
 (h.box.alloc o).grown hg (fun e=>own_other h.row h.box (by decide) e.symm)
theorem WW1.push {wm wx w3:World} {g nl c c3:Nat} {f v:Int} {A A3:Option Addr} {L:List Int} {o:Obj} (h:WW1 wm g f A nl c L wx) (hown:w3.ownsRow wm.heap.size 3 1 (.slice A3 (nl+1) c3) (nl+1) (ints (L++[v])))
  (hg:(wx.alloc o).grownBy w3 (Value.slice A nl c).ownBlock):WW1 wm g f A3 (nl+1) c3 (L++[v]) (w3.setCell ⟨g,1,none⟩ (.slice A3 (nl+1) c3)):=by
 have h1:=h.keep (bn_ wx o)
 have hb:=h.box3 hg
 generalize wx.alloc o=w1 at h1 hg
 have hch:Chg wm w3 (fun k=>k=g):=h1.chg.grownHi hg (fun k hk=>own_base h1.row hk)
 exact ⟨hch.setSame _,hb.put 1 _,(Chg.set w3 g 1 _).own hown (fun g' e hk=>own_other hown hb (by decide) (by rw [e,hk])),by rw [List.length_append,h.len];rfl⟩
def WireOut (v:WP) (w:World) (e:Ending) (w':World):Prop :=
 ∃ A c,e=.returned (.agg #[.int .i64 v.1,.slice A v.2.length c])∧Below w.heap.size w w'∧w'.ownsRow w.heap.size 3 1 (.slice A v.2.length c) v.2.length (ints v.2)
theorem rwire_any (W H T:Int) (P:PK) (S:SPT) (n:Nat) (w:World) (hin:P.In w) (hm:P.may) (hsi:S.In w) (hsf:S.fit) (hok:okA W H T) (hS:S.okP P W H) (hn:(n:Int)<P.I+(P.bs.length:Int)) :
  Calls Tryz.prog 82 #[.agg #[.int .i64 W,.int .i64 H,.int .i64 T],.agg #[.int .i64 P.I,.slice P.AB P.bs.length P.cB,.slice P.AO P.outs.length P.cO],.agg #[.slice S.AB S.sb.length S.cB,.slice S.AI S.si.length S.cI,.slice S.AO S.so.length S.cO],.int .i64 (n:Int)] w (WireOut (wAt W H T P S n) w):=by
 obtain ⟨s1,s2,s3,s4,s5⟩:=hS
 have Q0:=hd_ (bt_ (bt_ (bt_ (bt_ (bn_ w (.cells #[.int .i64 W,.int .i64 H,.int .i64 T] 23)) (bn_ _ (.cells #[.int .i64 P.I,.slice P.AB P.bs.length P.cB,.slice P.AO P.outs.length P.cO] 27))) (bn_ _ (.cells #[.slice S.AB S.sb.length S.cB,.slice S.AI S.si.length S.cI,.slice S.AO S.so.length S.cO] 29))) (bn_ _ (.cells #[.int .i64 0,.slice none 0 0] 87))) (bn_ _ (.cells #[.int .i64 0,.slice none 0 0] 87)))
 have X0:=hd_ (((((Blk.made w 23 #[.int .i64 W,.int .i64 H,.int .i64 T]).alloc (.cells #[.int .i64 P.I,.slice P.AB P.bs.length P.cB,.slice P.AO P.outs.length P.cO] 27)).alloc (.cells #[.slice S.AB S.sb.length S.cB,.slice S.AI S.si.length S.cI,.slice S.AO S.so.length S.cO] 29)).alloc (.cells #[.int .i64 0,.slice none 0 0] 87)).alloc (.cells #[.int .i64 0,.slice none 0 0] 87))
 have Y0:=hd_ ((((blk_made1 w (.cells #[.int .i64 W,.int .i64 H,.int .i64 T] 23) 27 #[.int .i64 P.I,.slice P.AB P.bs.length P.cB,.slice P.AO P.outs.length P.cO]).alloc (.cells #[.slice S.AB S.sb.length S.cB,.slice S.AI S.si.length S.cI,.slice S.AO S.so.length S.cO] 29)).alloc (.cells #[.int .i64 0,.slice none 0 0] 87)).alloc (.cells #[.int .i64 0,.slice none 0 0] 87))
 have Z0:=hd_ (show Blk (((((w.alloc (.cells #[.int .i64 W,.int .i64 H,.int .i64 T] 23)).alloc (.cells #[.int .i64 P.I,.slice P.AB P.bs.length P.cB,.slice P.AO P.outs.length P.cO] 27)).alloc (.cells #[.slice S.AB S.sb.length S.cB,.slice S.AI S.si.length S.cI,.slice S.AO S.so.length S.cO] 29)).alloc (.cells #[.int .i64 0,.slice none 0 0] 87)).alloc (.cells #[.int .i64 0,.slice none 0 0] 87)) (w.heap.size+1+1) 29 #[.slice S.AB S.sb.length S.cB,.slice S.AI S.si.length S.cI,.slice S.AO S.so.length S.cO] from by
  have:=((Blk.made ((w.alloc (.cells #[.int .i64 W,.int .i64 H,.int .i64 T] 23)).alloc (.cells #[.int .i64 P.I,.slice P.AB P.bs.length P.cB,.slice P.AO P.outs.length P.cO] 27)) 29 #[.slice S.AB S.sb.length S.cB,.slice S.AI S.si.length S.cI,.slice S.AO S.so.length S.cO]).alloc (.cells #[.int .i64 0,.slice none 0 0] 87)).alloc (.cells #[.int .i64 0,.slice none 0 0] 87)
  simpa using this)
 have R0:=hd_ (show Blk (((((w.alloc (.cells #[.int .i64 W,.int .i64 H,.int .i64 T] 23)).alloc (.cells #[.int .i64 P.I,.slice P.AB P.bs.length P.cB,.slice P.AO P.outs.length P.cO] 27)).alloc (.cells #[.slice S.AB S.sb.length S.cB,.slice S.AI S.si.length S.cI,.slice S.AO S.so.length S.cO] 29)).alloc (.cells #[.int .i64 0,.slice none 0 0] 87)).alloc (.cells #[.int .i64 0,.slice none 0 0] 87)) (w.heap.size+1+1+1) 87 #[.int .i64 0,.slice none 0 0] from by
  have:=(Blk.made (((w.alloc (.cells #[.int .i64 W,.int .i64 H,.int .i64 T] 23)).alloc (.cells #[.int .i64 P.I,.slice P.AB P.bs.length P.cB,.slice P.AO P.outs.length P.cO] 27)).alloc (.cells #[.slice S.AB S.sb.length S.cB,.slice S.AI S.si.length S.cI,.slice S.AO S.so.length S.cO] 29)) 87 #[.int .i64 0,.slice none 0 0]).alloc (.cells #[.int .i64 0,.slice none 0 0] 87)
  simpa using this)
 have T0:=hd_ (show Blk (((((w.alloc (.cells #[.int .i64 W,.int .i64 H,.int .i64 T] 23)).alloc (.cells #[.int .i64 P.I,.slice P.AB P.bs.length P.cB,.slice P.AO P.outs.length P.cO] 27)).alloc (.cells #[.slice S.AB S.sb.length S.cB,.slice S.AI S.si.length S.cI,.slice S.AO S.so.length S.cO] 29)).alloc (.cells #[.int .i64 0,.slice none 0 0] 87)).alloc (.cells #[.int .i64 0,.slice none 0 0] 87)) (w.heap.size+1+1+1+1) 87 #[.int .i64 0,.slice none 0 0] from by
  have:=Blk.made ((((w.alloc (.cells #[.int .i64 W,.int .i64 H,.int .i64 T] 23)).alloc (.cells #[.int .i64 P.I,.slice P.AB P.bs.length P.cB,.slice P.AO P.outs.length P.cO] 27)).alloc (.cells #[.slice S.AB S.sb.length S.cB,.slice S.AI S.si.length S.cI,.slice S.AO S.so.length S.cO] 29)).alloc (.cells #[.int .i64 0,.slice none 0 0] 87)) 87 #[.int .i64 0,.slice none 0 0]
  simpa using this)
 have hs5:(((((w.alloc (.cells #[.int .i64 W,.int .i64 H,.int .i64 T] 23)).alloc (.cells #[.int .i64 P.I,.slice P.AB P.bs.length P.cB,.slice P.AO P.outs.length P.cO] 27)).alloc (.cells #[.slice S.AB S.sb.length S.cB,.slice S.AI S.si.length S.cI,.slice S.AO S.so.length S.cO] 29)).alloc (.cells #[.int .i64 0,.slice none 0 0] 87)).alloc (.cells #[.int .i64 0,.slice none 0 0] 87)).heap.size=w.heap.size+5:=by simp
 have HS5:=hd_ hs5
 have HI:=hd_ hin
 have HSI:=hd_ hsi
 have HM:=hd_ hm
 have HOK:=hd_ hok
 have HF:=hd_ hsf
 have hh:=hok
 unfold okA at hh
 have hI:=hm.2.1
 have hI0:=hm.1
 have hbn:=hm.2.2.1
 have HS1:=hd_ s1
 have HS2_:=hd_ s2
 have HS3:=hd_ s3
 have HS4:=hd_ s4
 obtain ⟨V,hV⟩:∃ V,wAt W H T P S n=V:=⟨_,rfl⟩
 have HV:=hd_ hV
 rw [hV]
 obtain ⟨nb,hnb⟩:∃ n,S.sb.length=n:=⟨_,rfl⟩
 obtain ⟨ni,hni⟩:∃ n,S.si.length=n:=⟨_,rfl⟩
 obtain ⟨no,hno⟩:∃ n,S.so.length=n:=⟨_,rfl⟩
 obtain ⟨pb,hpb⟩:∃ n,P.bs.length=n:=⟨_,rfl⟩
 obtain ⟨po,hpo⟩:∃ n,P.outs.length=n:=⟨_,rfl⟩
 obtain ⟨pI,hpI⟩:∃ n,P.I=n:=⟨_,rfl⟩
 have hf1:=hsf.b
 have hf2:=hsf.i
 have hf3:=hsf.o
 simp only [hnb,hni,hno,hpb,hpo,hpI] at X0 Y0 Z0 R0 T0 Q0 hn hI hI0 hbn hf1 hf2 hf3 HS5 s1 s2 s3 ⊢
 have HNB:=hd_ hnb
 have HNI:=hd_ hni
 have HNO:=hd_ hno
 have HPB:=hd_ hpb
 have HPO:=hd_ hpo
 have HPI:=hd_ hpI
 have s1':nb<=pb∧pb<=nb:=by omega
 have s2':(ni:Int)<=pI∧pI<=(ni:Int):=by omega
 have s3':no<=po∧po<=no:=by omega
 clear hnb hni hno hpb hpo hpI hin hsi hm hok hsf s4 s5 hV hs5 s1 s2 s3
 have HNN:=hd_ hn
 have y0:=Y0.out.cell 0
 have y1:=Y0.out.cell 1
 go_enter Tryz.func82,Tryz.ntmps82
 go_upto_if 23 with (fail)
 generalize hw5:(((((w.alloc (.cells #[.int .i64 W,.int .i64 H,.int .i64 T] 23)).alloc (.cells #[.int .i64 pI,.slice P.AB pb P.cB,.slice P.AO po P.cO] 27)).alloc (.cells #[.slice S.AB nb S.cB,.slice S.AI ni S.cI,.slice S.AO no S.cO] 29)).alloc (.cells #[.int .i64 0,.slice none 0 0] 87)).alloc (.cells #[.int .i64 0,.slice none 0 0] 87))=w5 at X0 Y0 Z0 R0 T0 Q0 HS5 y0 y1 ⊢
 have T5:=T0
 have HS0:=hd_ (show ∀ W':World,Below w5.heap.size w5 W'->(W'.cell? ⟨w.heap.size,0,none⟩=some (.int .i64 W)∧W'.cell? ⟨w.heap.size,1,none⟩=some (.int .i64 H)∧W'.cell? ⟨w.heap.size,2,none⟩=some (.int .i64 T)) from fun W' hW=>⟨(X0.out.keep hW).cell 0,(X0.out.keep hW).cell 1,(X0.out.keep hW).cell 2⟩)
 have HSET0:=hd_ (show ∀ W':World,Below w5.heap.size w5 W'->∀ v:Int,(W'.setCell ⟨w.heap.size+1+1+1+1,0,none⟩ (.int .i64 v)).cell? ⟨w.heap.size,0,none⟩=some (.int .i64 W)∧(W'.setCell ⟨w.heap.size+1+1+1+1,0,none⟩ (.int .i64 v)).cell? ⟨w.heap.size,1,none⟩=some (.int .i64 H)∧(W'.setCell ⟨w.heap.size+1+1+1+1,0,none⟩ (.int .i64 v)).cell? ⟨w.heap.size,2,none⟩=some (.int .i64 T) from fun W' hW v =>
  have hb:=(X0.out.keep hW).apart (p:=⟨w.heap.size+1+1+1+1,0,none⟩) (by show w.heap.size≠w.heap.size+1+1+1+1;omega) (.int .i64 v)
  ⟨hb.cell 0,hb.cell 1,hb.cell 2⟩)
 have HEND:=hd_ (show ∀ W':World,Below w5.heap.size w5 W'->∀ v:Int,v=V.1->∃ wm,W'.setCell ⟨w.heap.size+1+1+1+1,0,none⟩ (.int .i64 v)=wm∧Chg w5 wm (fun k=>k=w.heap.size+1+1+1+1)∧Blk wm (w.heap.size+1+1+1+1) 87 #[.int .i64 V.1,.slice none 0 0] from fun W' hW v hv=>by
  subst hv
  exact ⟨_,rfl,(Chg.of_below hW _).setSame _,(T5.out.keep hW).put 0 _⟩)
 clear y0 y1 hw5
 go_cut [9] (fun v9 wx=>v9=.pointer (some ⟨w.heap.size+1+1+1+1,0,none⟩)∧∃ wm,wx=wm∧Chg w5 wm (fun k=>k=w.heap.size+1+1+1+1)∧Blk wm (w.heap.size+1+1+1+1) 87 #[.int .i64 V.1,.slice none 0 0])
 case first =>
  by_cases hlt:(n:Int)<pI
  case pos =>
   have hfr:nodeN W H T 2 (S.si.getD n 0) 0 0=V.1:=by rw [<- HV.out];show _=wFrom W H T P S n;unfold wFrom;rw [if_pos (by rw [HPI.out];exact hlt)]
   have hni:n<ni:=by omega
   obtain ⟨pa,hPA,hpb,e0⟩:=HSI.out.i.int (k:=n) (by rw [HNI.out];exact hni)
   generalize S.si.getD n 0=z at e0 hfr
   have HFR:=hd_ hfr
   rw [hPA] at Z0
   have HE0:=hd_ ((Q0.out.cell (p:=pa.add n) (by rw [add_block];exact hpb)).trans e0)
   have HPBB:=hd_ hpb
   have HS:=hd_ (show ∀ w':World,Below w5.heap.size w5 w'->(w'.cell? ⟨w.heap.size,0,none⟩=some (.int .i64 W)∧w'.cell? ⟨w.heap.size,1,none⟩=some (.int .i64 H)∧w'.cell? ⟨w.heap.size,2,none⟩=some (.int .i64 T)∧w'.cell? ⟨w.heap.size+1+1,1,none⟩=some (.slice (some pa) ni S.cI)∧w'.cell? (pa.add n)=some (.int .i64 z)) from fun W' hW=>⟨(HS0.out W' hW).1,(HS0.out W' hW).2.1,(HS0.out W' hW).2.2,(Z0.out.keep hW).cell 1,(hW.cell (p:=pa.add n) (by rw [add_block];have:=HS5.out;have:=HPBB.out;omega)).trans HE0.out⟩)
   have HSET:=hd_ (show ∀ W':World,Below w5.heap.size w5 W'->∀ v:Int,_ from fun W' hW v=>(⟨(HSET0.out W' hW v).1,(HSET0.out W' hW v).2.1,(HSET0.out W' hW v).2.2,((Z0.out.keep hW).apart (p:=⟨w.heap.size+1+1+1+1,0,none⟩) (by show w.heap.size+1+1≠w.heap.size+1+1+1+1;omega) (.int .i64 v)).cell 1,by
    rw [World.cell?_setCell_far _ _ _ _ (by show w.heap.size+1+1+1+1≠(pa.add n).block;rw [add_block];have:=HPBB.out;omega)]
    exact (HS.out W' hW).2.2.2.2⟩:(W'.setCell ⟨w.heap.size+1+1+1+1,0,none⟩ (.int .i64 v)).cell? ⟨w.heap.size,0,none⟩=some (.int .i64 W)∧(W'.setCell ⟨w.heap.size+1+1+1+1,0,none⟩ (.int .i64 v)).cell? ⟨w.heap.size,1,none⟩=some (.int .i64 H)∧(W'.setCell ⟨w.heap.size+1+1+1+1,0,none⟩ (.int .i64 v)).cell? ⟨w.heap.size,2,none⟩=some (.int .i64 T)∧(W'.setCell ⟨w.heap.size+1+1+1+1,0,none⟩ (.int .i64 v)).cell? ⟨w.heap.size+1+1,1,none⟩=some (.slice (some pa) ni S.cI)∧(W'.setCell ⟨w.heap.size+1+1+1+1,0,none⟩ (.int .i64 v)).cell? (pa.add n)=some (.int .i64 z)))
   clear hfr hPA hpb e0
   go_upto_region 3 with (fail)
   refine wp_region_held_drew (S:=(fun w'=>w'.cell? ⟨w.heap.size,0,none⟩=some (.int .i64 W)∧w'.cell? ⟨w.heap.size,1,none⟩=some (.int .i64 H)∧w'.cell? ⟨w.heap.size,2,none⟩=some (.int .i64 T)∧w'.cell? ⟨w.heap.size+1+1,1,none⟩=some (.slice (some pa) ni S.cI)∧w'.cell? (pa.add n)=some (.int .i64 z))) (by kernel_rfl) ?_ (fun hh=>?_)
   ·(first|exact HS.out _ br_|exact HS.out _ bd_|exact HS.out _ B6.out|exact HS2.out)
   refine tk_ 0 (⟨some 25,.load 23 (.tmp 4),23,_,#[],none⟩) (v:=?_) ?_ ?_
   rotate_left
   ·intro w hSw;(try dsimp only at hSw);go_simp;(try with_reducible rfl)
   try simp only [Act.put,la_,lz_,ls_]
   refine tk_ 1 (⟨some 26,.fieldAddr 29 (.tmp 6) 1,0,_,#[],none⟩) (v:=?_) ?_ ?_
   rotate_left
   ·intro w hSw;(try dsimp only at hSw);go_simp;(try with_reducible rfl)
   try simp only [Act.put,la_,lz_,ls_]
   refine tk_ 2 (⟨some 27,.load 25 (.tmp 26),25,_,#[⟨1,.data⟩],none⟩) (v:=?_) ?_ ?_
   rotate_left
   ·intro w hSw;(try dsimp only at hSw);go_simp;(try with_reducible rfl)
   try simp only [Act.put,la_,lz_,ls_]
   refine tk_ 3 (⟨some 28,.move (.tmp 3),3,_,#[],none⟩) (v:=?_) ?_ ?_
   rotate_left
   ·intro w hSw;(try dsimp only at hSw);go_simp;(try with_reducible rfl)
   try simp only [Act.put,la_,lz_,ls_]
   refine tk_ 4 (⟨some 29,.indexAddr 25 (.tmp 27) (.tmp 28),0,_,#[⟨2,.data⟩,⟨3,.data⟩],none⟩) (v:=?_) ?_ ?_
   rotate_left
   ·intro w hSw;(try dsimp only at hSw);go_simp;(try with_reducible rfl)
   try simp only [Act.put,la_,lz_,ls_]
   refine tk_ 5 (⟨some 30,.load 3 (.tmp 29),3,_,#[⟨4,.data⟩],none⟩) (v:=?_) ?_ ?_
   rotate_left
   ·intro w hSw;(try dsimp only at hSw);go_simp;(try with_reducible rfl)
   try simp only [Act.put,la_,lz_,ls_]
   refine rd_ [6] ?_
   refine AllReadyH.cons (o:=⟨some 31,.call { callee:=.value (.func 107),args:=#[.tmp 25,.tmp 30],argTypes:=#[23,3] },84,_,#[⟨0,.data⟩,⟨5,.data⟩],none⟩) rfl (fun K hK=>?_) AllReadyH.nil
   go_simp
   with_reducible refine (rpad_any W H T z _).mono ?_
   rintro e w6 ⟨rfl,hb6⟩
   have B6:=hd_ (bt_ bd_ hb6)
   have T6:=hd_ (T5.out.keep B6.out)
   have f6:=T6.out.free 0
   have t6:=T6.out.cell 0
   have HS2:=hd_ (HSET.out w6 B6.out (nodeN W H T 2 z 0 0))
   clear hb6
   refine hK.out _ _ ?_ (fun hh=>?_)
   ·(first|exact HS.out _ br_|exact HS.out _ bd_|exact HS.out _ B6.out|exact HS2.out)
   clear hK K
   try simp only [Act.put,la_,lz_,ls_]
   refine tk_ 7 (⟨some 24,.move (.tmp 31),84,_,#[⟨6,.data⟩],none⟩) (v:=?_) ?_ ?_
   rotate_left
   ·intro w hSw;(try dsimp only at hSw);go_simp;(try with_reducible rfl)
   try simp only [Act.put,la_,lz_,ls_]
   refine tk_ 8 (⟨some 32,.extract (.tmp 24) 0,3,_,#[⟨7,.data⟩],none⟩) (v:=?_) ?_ ?_
   rotate_left
   ·intro w hSw;(try dsimp only at hSw);go_simp;(try with_reducible rfl)
   try simp only [Act.put,la_,lz_,ls_]
   refine tk_ 9 (⟨some 33,.extract (.tmp 24) 1,38,_,#[⟨7,.data⟩,⟨11,.gcOnly .lateStores⟩],none⟩) (v:=?_) ?_ ?_
   rotate_left
   ·intro w hSw;(try dsimp only at hSw);go_simp;(try with_reducible rfl)
   try simp only [Act.put,la_,lz_,ls_]
   refine tk_ 10 (⟨some 34,.fieldAddr 87 (.tmp 9) 0,0,_,#[⟨0,.phase⟩,⟨1,.phase⟩,⟨2,.phase⟩,⟨3,.phase⟩,⟨4,.phase⟩,⟨5,.phase⟩,⟨6,.phase⟩,⟨7,.phase⟩,⟨8,.phase⟩,⟨9,.textOnly .lateStores⟩],none⟩) (v:=?_) ?_ ?_
   rotate_left
   ·intro w hSw;(try dsimp only at hSw);go_simp;(try with_reducible rfl)
   try simp only [Act.put,la_,lz_,ls_]
   refine rd_ [11] ?_
   refine AllReadyH.cons (o:=⟨none,.store 3 (.tmp 34) (.tmp 32),0,_,#[⟨10,.data⟩,⟨8,.data⟩,⟨6,.chain⟩,⟨0,.phase⟩,⟨1,.phase⟩,⟨2,.phase⟩,⟨3,.phase⟩,⟨4,.phase⟩,⟨5,.phase⟩,⟨6,.phase⟩,⟨7,.phase⟩,⟨8,.phase⟩,⟨9,.textOnly .lateStores⟩],none⟩) rfl (fun K hK=>?_) AllReadyH.nil
   go_simp
   refine hK.out _ _ ?_ (fun hh=>?_)
   ·(first|exact HS.out _ br_|exact HS.out _ bd_|exact HS.out _ B6.out|exact HS2.out)
   clear hK K
   try simp only [Act.put,la_,lz_,ls_]
   refine wpAnyH_done (by kernel_rfl) ?_ _
   clear f6 t6
   go_wp2_with fail
   go_meet
   case rel=>exact ⟨rfl,HEND.out w6 B6.out _ HFR.out⟩
  case neg =>
   have hge:¬ (n:Int)<pI:=hlt
   obtain ⟨q,hq⟩:∃ q:Nat,(n:Int)-pI=(q:Int):=⟨((n:Int)-pI).toNat,by omega⟩
   have hqn:q<nb:=by omega
   have hfr:nodeN W H T 0 (S.sb.getD q 0%W) (S.sb.getD q 0/W) 0=V.1:=by
    rw [<- HV.out];show _=wFrom W H T P S n;unfold wFrom;rw [if_neg (by rw [HPI.out];exact hlt),HPI.out,hq,Int.toNat_natCast]
   obtain ⟨pa,hPA,hpb,e0⟩:=HSI.out.b.int (k:=q) (by rw [HNB.out];exact hqn)
   have hz:0<=S.sb.getD q 0∧S.sb.getD q 0<W*H:=HS4.out.1 _ (by
    have hl:q<S.sb.length:=by rw [HNB.out];exact hqn
    rw [List.getD_eq_getElem?_getD,List.getElem?_eq_getElem hl]
    exact List.getElem_mem hl)
   generalize S.sb.getD q 0=z at e0 hfr hz
   obtain ⟨X,hX⟩:∃ X,z%W=X:=⟨_,rfl⟩
   obtain ⟨Y,hY⟩:∃ Y,z/W=Y:=⟨_,rfl⟩
   have m1:=mul_bd (a:=W) (b:=H) (A:=16) (B:=16) (by omega) (by omega) (by omega) (by omega)
   have hXb:0<=X∧X<W:=by rw [<- hX];exact ⟨Int.emod_nonneg _ (by omega),Int.emod_lt_of_pos _ (by omega)⟩
   have hYb:0<=Y∧Y<=z:=by rw [<- hY];exact ⟨Int.ediv_nonneg hz.1 (by omega),Int.ediv_le_self _ hz.1⟩
   have htm:z.tmod W=X:=by rw [Int.tmod_eq_emod_of_nonneg hz.1,hX]
   have htd:z.tdiv W=Y:=by rw [Int.tdiv_eq_ediv_of_nonneg hz.1,hY]
   have hwY:IntKind.i64.wrap Y=Y:=IntWalk.i64_in _ (by omega)
   have hwX:IntKind.i64.wrap X=X:=IntWalk.i64_in _ (by omega)
   have hW0:¬ W=0:=by omega
   rw [hX,hY] at hfr
   have HFR:=hd_ hfr
   have e1:=(Q0.out.cell (p:=pa.add q) (by rw [add_block];exact hpb)).trans e0
   rw [hPA] at Z0
   have z0:=Z0.out.cell 0
   have y0:=Y0.out.cell 0
   have HS:=HS0
   have HSET:=HSET0
   clear hfr hPA hpb e0 hX hY
   go_upto_region 5 with (fail)
   clear e1 z0 y0
   refine wp_region_held_drew (S:=(fun w'=>w'.cell? ⟨w.heap.size,0,none⟩=some (.int .i64 W)∧w'.cell? ⟨w.heap.size,1,none⟩=some (.int .i64 H)∧w'.cell? ⟨w.heap.size,2,none⟩=some (.int .i64 T))) (by kernel_rfl) ?_ (fun hh=>?_)
   ·(first|exact HS.out _ br_|exact HS.out _ bd_|exact HS.out _ B6.out|exact HS2.out)
   refine tk_ 0 (⟨some 44,.load 23 (.tmp 4),23,_,#[],none⟩) (v:=?_) ?_ ?_
   rotate_left
   ·intro w hSw;(try dsimp only at hSw);go_simp;(try with_reducible rfl)
   try simp only [Act.put,la_,lz_,ls_]
   refine tk_ 1 (⟨some 45,.move (.tmp 10),3,_,#[],none⟩) (v:=?_) ?_ ?_
   rotate_left
   ·intro w hSw;(try dsimp only at hSw);go_simp;(try with_reducible rfl)
   try simp only [Act.put,la_,lz_,ls_]
   refine tk_ 2 (⟨some 46,.fieldAddr 23 (.tmp 4) 0,0,_,#[],none⟩) (v:=?_) ?_ ?_
   rotate_left
   ·intro w hSw;(try dsimp only at hSw);go_simp;(try with_reducible rfl)
   try simp only [Act.put,la_,lz_,ls_]
   refine tk_ 3 (⟨some 47,.load 3 (.tmp 46),3,_,#[⟨2,.data⟩],none⟩) (v:=?_) ?_ ?_
   rotate_left
   ·intro w hSw;(try dsimp only at hSw);go_simp;(try with_reducible rfl)
   try simp only [Act.put,la_,lz_,ls_]
   refine tk_ 4 (⟨some 48,.binOp BinOp.rem 3 (.tmp 45) (.tmp 47) 3,3,_,#[⟨1,.data⟩,⟨3,.data⟩],none⟩) (v:=?_) ?_ ?_
   rotate_left
   ·intro w hSw;(try dsimp only at hSw);go_simp;(try with_reducible rfl)
   try simp only [Act.put,la_,lz_,ls_]
   refine tk_ 5 (⟨some 49,.move (.tmp 10),3,_,#[],none⟩) (v:=?_) ?_ ?_
   rotate_left
   ·intro w hSw;(try dsimp only at hSw);go_simp;(try with_reducible rfl)
   try simp only [Act.put,la_,lz_,ls_]
   refine tk_ 6 (⟨some 50,.fieldAddr 23 (.tmp 4) 0,0,_,#[],none⟩) (v:=?_) ?_ ?_
   rotate_left
   ·intro w hSw;(try dsimp only at hSw);go_simp;(try with_reducible rfl)
   try simp only [Act.put,la_,lz_,ls_]
   refine tk_ 7 (⟨some 51,.load 3 (.tmp 50),3,_,#[⟨6,.data⟩],none⟩) (v:=?_) ?_ ?_
   rotate_left
   ·intro w hSw;(try dsimp only at hSw);go_simp;(try with_reducible rfl)
   try simp only [Act.put,la_,lz_,ls_]
   refine tk_ 8 (⟨some 52,.binOp BinOp.quo 3 (.tmp 49) (.tmp 51) 3,3,_,#[⟨5,.data⟩,⟨7,.data⟩],none⟩) (v:=?_) ?_ ?_
   rotate_left
   ·intro w hSw;(try dsimp only at hSw);go_simp;(try with_reducible rfl)
   try simp only [Act.put,la_,lz_,ls_]
   refine rd_ [9] ?_
   refine AllReadyH.cons (o:=⟨some 53,.call { callee:=.value (.func 108),args:=#[.tmp 44,.tmp 48,.tmp 52],argTypes:=#[23,3,3] },84,_,#[⟨0,.data⟩,⟨4,.data⟩,⟨8,.data⟩],none⟩) rfl (fun K hK=>?_) AllReadyH.nil
   go_simp
   with_reducible refine (rout_any W H T X Y _).mono ?_
   rintro e w6 ⟨rfl,hb6⟩
   have B6:=hd_ (bt_ bd_ hb6)
   have T6:=hd_ (T5.out.keep B6.out)
   have f6:=T6.out.free 0
   have t6:=T6.out.cell 0
   have HS2:=hd_ (HSET.out w6 B6.out (nodeN W H T 0 X Y 0))
   clear hb6
   refine hK.out _ _ ?_ (fun hh=>?_)
   ·(first|exact HS.out _ br_|exact HS.out _ bd_|exact HS.out _ B6.out|exact HS2.out)
   clear hK K
   try simp only [Act.put,la_,lz_,ls_]
   refine tk_ 10 (⟨some 43,.move (.tmp 53),84,_,#[⟨9,.data⟩],none⟩) (v:=?_) ?_ ?_
   rotate_left
   ·intro w hSw;(try dsimp only at hSw);go_simp;(try with_reducible rfl)
   try simp only [Act.put,la_,lz_,ls_]
   refine tk_ 11 (⟨some 54,.extract (.tmp 43) 0,3,_,#[⟨10,.data⟩],none⟩) (v:=?_) ?_ ?_
   rotate_left
   ·intro w hSw;(try dsimp only at hSw);go_simp;(try with_reducible rfl)
   try simp only [Act.put,la_,lz_,ls_]
   refine tk_ 12 (⟨some 55,.extract (.tmp 43) 1,38,_,#[⟨10,.data⟩,⟨14,.gcOnly .lateStores⟩],none⟩) (v:=?_) ?_ ?_
   rotate_left
   ·intro w hSw;(try dsimp only at hSw);go_simp;(try with_reducible rfl)
   try simp only [Act.put,la_,lz_,ls_]
   refine tk_ 13 (⟨some 56,.fieldAddr 87 (.tmp 9) 0,0,_,#[⟨0,.phase⟩,⟨1,.phase⟩,⟨2,.phase⟩,⟨3,.phase⟩,⟨4,.phase⟩,⟨5,.phase⟩,⟨6,.phase⟩,⟨7,.phase⟩,⟨8,.phase⟩,⟨9,.phase⟩,⟨10,.phase⟩,⟨11,.phase⟩,⟨12,.textOnly .lateStores⟩],none⟩) (v:=?_) ?_ ?_
   rotate_left
   ·intro w hSw;(try dsimp only at hSw);go_simp;(try with_reducible rfl)
   try simp only [Act.put,la_,lz_,ls_]
   refine rd_ [14] ?_
   refine AllReadyH.cons (o:=⟨none,.store 3 (.tmp 56) (.tmp 54),0,_,#[⟨13,.data⟩,⟨11,.data⟩,⟨9,.chain⟩,⟨0,.phase⟩,⟨1,.phase⟩,⟨2,.phase⟩,⟨3,.phase⟩,⟨4,.phase⟩,⟨5,.phase⟩,⟨6,.phase⟩,⟨7,.phase⟩,⟨8,.phase⟩,⟨9,.phase⟩,⟨10,.phase⟩,⟨11,.phase⟩,⟨12,.textOnly .lateStores⟩],none⟩) rfl (fun K hK=>?_) AllReadyH.nil
   go_simp
   refine hK.out _ _ ?_ (fun hh=>?_)
   ·(first|exact HS.out _ br_|exact HS.out _ bd_|exact HS.out _ B6.out|exact HS2.out)
   clear hK K
   try simp only [Act.put,la_,lz_,ls_]
   refine wpAnyH_done (by kernel_rfl) ?_ _
   clear f6 t6
   go_wp2_with fail
   go_meet
   case rel=>exact ⟨rfl,HEND.out w6 B6.out _ HFR.out⟩
 case rest =>
  obtain ⟨rfl,wm_,rfl,hch,hbx⟩:=hcut
  obtain ⟨wm,hwm⟩:∃ v,v=wc:=⟨_,rfl⟩
  subst hwm
  obtain ⟨vf,hvf⟩:∃ v,V.1=v:=⟨_,rfl⟩
  rw [hvf] at hbx
  have HVF:=hd_ hvf
  clear hvf HEND HSET0 T5
  have hg5:w.heap.size+1+1+1+1<w5.heap.size:=by have:=HS5.out;omega
  generalize hg:w.heap.size+1+1+1+1=g at hch hbx hg5 ⊢
  have HG:=hd_ hg
  have P0:=hd_ (show WW1 wm g vf none 0 0 [] wm from ⟨Chg.refl _ _,hbx,World.ownsRow_nil _ _ _ _,rfl⟩)
  have C5:=hd_ hch
  have hwg:w.heap.size+1+1+1<g:=by omega
  have hgm:g<wm.heap.size:=hbx.lt
  have HX:=hd_ (show ∀ W':World,Chg wm W' (fun k=>k=g)->Blk W' w.heap.size 23 #[.int .i64 W,.int .i64 H,.int .i64 T] from fun W' hW=>hW.blk (C5.out.blk X0.out (by omega)) (by omega))
  have HY:=hd_ (show ∀ W':World,Chg wm W' (fun k=>k=g)->Blk W' (w.heap.size+1) 27 #[.int .i64 pI,.slice P.AB pb P.cB,.slice P.AO po P.cO] from fun W' hW=>hW.blk (C5.out.blk Y0.out (by omega)) (by omega))
  have HZ:=hd_ (show ∀ W':World,Chg wm W' (fun k=>k=g)->Blk W' (w.heap.size+1+1) 29 #[.slice S.AB nb S.cB,.slice S.AI ni S.cI,.slice S.AO no S.cO] from fun W' hW=>hW.blk (C5.out.blk Z0.out (by omega)) (by omega))
  have HR:=hd_ (show ∀ W':World,Chg wm W' (fun k=>k=g)->Blk W' (w.heap.size+1+1+1) 87 #[.int .i64 0,.slice none 0 0] from fun W' hW=>hW.blk (C5.out.blk R0.out (by omega)) (by omega))
  have HB5:=hd_ (show ∀ W':World,Chg wm W' (fun k=>k=g)->Below w.heap.size w W' from fun W' hW=>hW.below (C5.out.below Q0.out Q0.out.size (fun k hk=>by omega)) (by have:=C5.out.size;omega) (fun k hk=>by omega))
  have m1:=mul_bd (a:=W) (b:=H) (A:=16) (B:=16) (by omega) (by omega) (by omega) (by omega)
  have hW0:¬ W=0:=by omega
  clear hch hbx hg
  go_wp2_with fail
  go_loopw [11] (fun v11 wx=>∃ (i:Nat) (A:Option Addr) (nl c:Nat) (L:List Int),i<=pb∧v11=.int .i64 (i:Int)∧WW1 wm g vf A nl c L wx∧Hid (L=atW (evTo W H T P S i) (n:Int))) (fun v11 _=>pb-(intOf v11).toNat)
  case atStart=>exact ⟨0,none,0,0,[],by omega,rfl,P0.out,hd_ rfl⟩
  case round =>
   obtain ⟨i,A,nl,c,L,hi,rfl,hp,HLL⟩:=hrel
   have P1:=hd_ hp
   clear hp
   have y1:=(HY.out wr P1.out.chg).cell 1
   by_cases hip:i<pb
   case pos =>
    have hip':(i:Int)<(pb:Int):=by omega
    have hinb:i<nb:=by omega
    obtain ⟨pa,hPA,hpb,e0⟩:=HSI.out.b.int (k:=i) (by rw [HNB.out];exact hinb)
    have hz:0<=S.sb.getD i 0∧S.sb.getD i 0<W*H:=HS4.out.1 _ (by
     have hl:i<S.sb.length:=by rw [HNB.out];exact hinb
     rw [List.getD_eq_getElem?_getD,List.getElem?_eq_getElem hl]
     exact List.getElem_mem hl)
    have hib:i<P.bs.length:=by rw [HPB.out];exact hip
    have hbk:=HM.out.2.2.2.1 _ (List.getElem_mem hib)
    have hbl:=hbk.1
    have hev:evTo W H T P S (i+1)=evTo W H T P S i++evIn W H T (S.sb.getD i 0) P.bs[i].l P.bs[i].l.length:=by rw [evTo,inL_get hib]
    obtain ⟨pq,hPQ,hpqb,b0,-,-,-⟩:=HI.out.blocks.block (k:=i) hib
    have hea:=HI.out.each _ (List.getElem_mem hib)
    have hlE:=evTo_len W H T S (fun b hb=>(HM.out.2.2.2.1 b hb).1) i
    have HEV:=hd_ hev
    generalize S.sb.getD i 0=z at e0 hz HEV
    generalize P.bs[i]=bl at hbl b0 hea HEV
    obtain ⟨bA,bc,l,bt,bf,bi⟩:=bl
    simp only at hbl b0 hea HEV
    have HEA:=hd_ hea
    obtain ⟨ql,hql⟩:∃ q,l.length=q:=⟨_,rfl⟩
    have HQL:=hd_ hql
    rw [hql] at hbl b0
    have hZw:=HZ.out wr P1.out.chg
    rw [hPA] at hZw
    have z0:=hZw.cell 0
    have e1:=((HB5.out wr P1.out.chg).cell (p:=pa.add i) (by rw [add_block];exact hpb)).trans e0
    have HPA:=hd_ hPA
    have HPQ:=hd_ hPQ
    have HPQB:=hd_ hpqb
    have HB0:=hd_ b0
    have hY2:=HY.out wr P1.out.chg
    obtain ⟨X,hX⟩:∃ X,z%W=X:=⟨_,rfl⟩
    obtain ⟨Y,hY⟩:∃ Y,z/W=Y:=⟨_,rfl⟩
    have hXb:0<=X∧X<W:=by rw [<- hX];exact ⟨Int.emod_nonneg _ (by omega),Int.emod_lt_of_pos _ (by omega)⟩
    have hYb:0<=Y∧Y<=z:=by rw [<- hY];exact ⟨Int.ediv_nonneg hz.1 (by omega),Int.ediv_le_self _ hz.1⟩
    have htm:z.tmod W=X:=by rw [Int.tmod_eq_emod_of_nonneg hz.1,hX]
    have htd:z.tdiv W=Y:=by rw [Int.tdiv_eq_ediv_of_nonneg hz.1,hY]
    have hwY:IntKind.i64.wrap Y=Y:=IntWalk.i64_in _ (by omega)
    have hwX:IntKind.i64.wrap X=X:=IntWalk.i64_in _ (by omega)
    have HXX:=hd_ hX
    have HYY:=hd_ hY
    clear hX hY hPA hpb e0 hib hbk hev hea hPQ hpqb b0 hql hY2 hZw
    go_wp2_with fail
    clear z0 e1 y1
    go_loopw [13] (fun v13 wx=>∃ (q:Nat) (A:Option Addr) (nl c:Nat) (L:List Int),q<=ql∧v13=.int .i64 (q:Int)∧WW1 wm g vf A nl c L wx∧Hid (L=atW (evTo W H T P S i++evIn W H T z l q) (n:Int))) (fun v13 _=>ql-(intOf v13).toNat)
    case atStart=>exact ⟨0,A,nl,c,L,by omega,rfl,P1.out,hd_ (by rw [HLL.out];simp [evIn])⟩
    case round =>
     clear P1 HLL
     obtain ⟨q,A,nl,c,L,hq,rfl,hp,HLL⟩:=hrel
     have P1:=hd_ hp
     clear hp
     have hYw:=HY.out wr P1.out.chg
     rw [HPQ.out] at hYw
     have y1:=hYw.cell 1
     obtain ⟨gq,hgq⟩:∃ p,pq.add (i*4)=p:=⟨_,rfl⟩
     have hgqb:gq.block<w.heap.size:=by rw [<- hgq,add_block];exact HPQB.out
     have b0:=((HB5.out wr P1.out.chg).cell (p:=pq.add (i*4)) (by rw [add_block];exact HPQB.out)).trans HB0.out
     rw [hgq] at b0
     have hnl:nl<=100000:=by
      have h1:=P1.out.len
      rw [HLL.out] at h1
      have h2:=atW_len (evTo W H T P S i++evIn W H T z l q) (n:Int)
      rw [List.length_append,evIn_len] at h2
      omega
     by_cases hqq:q<ql
     case neg =>
      obtain rfl:ql=q:=by omega
      have hlt:¬ (ql:Int)<(ql:Int):=by omega
      go_wp2_with fail
      go_roundw
      case rel=>exact ⟨i+1,A,nl,c,L,by omega,by go_num,P1.out,hd_ (by rw [HLL.out,HEV.out,HQL.out])⟩
      case measure=>simp [intOf];omega
     have hqq':(q:Int)<(ql:Int):=by omega
     obtain ⟨pe,hPE,hpeb,e0⟩:=HEA.out.int (k:=q) (by rw [HQL.out];exact hqq)
     have e1:=((HB5.out wr P1.out.chg).cell (p:=pe.add q) (by rw [add_block];exact hpeb)).trans e0
     rw [hPE] at b0
     have hnx:=evIn_next W H T z l q
     rw [HXX.out,HYY.out] at hnx
     have HNX:=hd_ hnx
     generalize l.getD q 0=x at e1 HNX
     clear hPE hpeb e0 hnx
     by_cases hxn:x=(n:Int)
     case neg =>
      have hd:(x==(n:Int))=false:=by rw [beq_eq_false_iff_ne];exact hxn
      have HL2:=hd_ (show L=atW (evTo W H T P S i++evIn W H T z l (q+1)) (n:Int) by rw [HNX.out,<- List.append_assoc,atW_no hxn,HLL.out])
      clear hxn
      go_wp2_with fail
      go_roundw
      case rel=>exact ⟨q+1,A,nl,c,L,by omega,by go_num,P1.out,HL2⟩
      case measure=>simp [intOf];omega
     subst hxn
     have HL2:=hd_ (show L++[nodeN W H T 1 X Y (q:Int)]=atW (evTo W H T P S i++evIn W H T z l (q+1)) (n:Int) by rw [HNX.out,<- List.append_assoc,atW_yes,HLL.out])
     have hXw:=HX.out wr P1.out.chg
     have a0:=hXw.cell 0
     have a1:=hXw.cell 1
     have a2:=hXw.cell 2
     clear hXw hYw
     go_wp2_with fail
     refine wp_region_still_in (by kernel_rfl) (by kernel_rfl) fun St9 ne9 V9 hV9 hS9=>?_
     have qa0:=still_cell hV9 a0
     have qa1:=still_cell hV9 a1
     have qa2:=still_cell hV9 a2
     repeat (first|go_big_quiet_step ((go_at_call 109;exact Calls.still hV9 hS9 (rin_any W H T X Y (q:Int) _)))|quiet_step ((go_at_call 109;exact Calls.still hV9 hS9 (rin_any W H T X Y (q:Int) _))))
     refine wpQuiet_nil ?_
     intro _ hw9
     obtain ⟨s9,rfl⟩:=hw9
     have hb9:=hV9 s9
     clear qa0 qa1 qa2 hS9
     generalize V9 s9=w9 at hb9 ⊢
     clear hV9 s9 V9 ne9 St9
     have P9:=hd_ (P1.out.keep hb9)
     have k18:=P9.out.box.cell 1
     have hsz9:=P9.out.chg.size
     have O9:=hd_ P9.out.row
     clear hb9 a0 a1 a2 y1 b0 e1
     generalize nodeN W H T 1 X Y (q:Int)=v at HL2 ⊢
     go_wp2_with (at_builtin;refine wpList_app_int rfl (.tmp 106) (.tmp 108) rfl wm.heap.size A nl c L rfl O9.out v rfl (by omega) hsz9 ?_)
     intro A3 c3 w3 hown3 hg3
     have P3:=hd_ (P9.out.push hown3 hg3)
     have hB3:=P9.out.box3 hg3
     have k19:=hB3.cell 1
     have f19:=hB3.free 1
     clear hown3 hg3 hB3 k18
     go_wp2_with fail
     go_roundw
     case rel=>exact ⟨q+1,A3,nl+1,c3,L++[v],by omega,by go_num,P3.out,HL2⟩
     case measure=>simp [intOf];omega
   obtain rfl:pb=i:=by omega
   have hlt:¬ (pb:Int)<(pb:Int):=by omega
   go_wp2_with fail
   clear hlt y1
   go_loopw [16] (fun v16 wx=>∃ (q:Nat) (A:Option Addr) (nl c:Nat) (L:List Int),q<=po∧v16=.int .i64 (q:Int)∧WW1 wm g vf A nl c L wx∧Hid (L=atW (evTo W H T P S pb++evOut W H T P S q) (n:Int))) (fun v16 _=>po-(intOf v16).toNat)
   case atStart=>exact ⟨0,A,nl,c,L,by omega,rfl,P1.out,hd_ (by rw [HLL.out];simp [evOut])⟩
   case round =>
    clear P1 HLL
    obtain ⟨q,A,nl,c,L,hq,rfl,hp,HLL⟩:=hrel
    have P1:=hd_ hp
    clear hp
    have y2:=(HY.out wr P1.out.chg).cell 2
    have hnl:nl<=100000:=by
     have h1:=P1.out.len
     rw [HLL.out] at h1
     have h2:=atW_len (evTo W H T P S pb++evOut W H T P S q) (n:Int)
     have hlE:=evTo_len W H T S (fun b hb=>(HM.out.2.2.2.1 b hb).1) pb
     rw [List.length_append,evOut_len] at h2
     omega
    by_cases hqq:q<po
    case neg =>
     obtain rfl:po=q:=by omega
     have hlt:¬ (po:Int)<(po:Int):=by omega
     have HL2:=hd_ (show L=V.2 by rw [HLL.out,<- HV.out];show _=atW (allEv W H T P S) (n:Int);unfold allEv;rw [HPB.out,HPO.out])
     have hRw:=HR.out wr P1.out.chg
     have r0:=hRw.cell 0
     have r1:=hRw.cell 1
     have f0:=hRw.free 0
     have f1:=hRw.free 1
     have t0:=P1.out.box.cell 0
     have t1:=P1.out.box.cell 1
     have hci:(Tryz.prog.info? 87).map (·.size)=some 2:=by kernel_rfl
     go_wp2_with fail
     have hS:=((Chg.set wr (w.heap.size+1+1+1) 0 (.int .i64 vf)).setSame (i:=1) (.slice A nl c))
     have R9:=(hRw.put 0 (.int .i64 vf)).put 1 (.slice A nl c)
     refine bodyPost_ret (v:=.agg #[.int .i64 vf,.slice A nl c]) ?_ rfl ?_
     ·exact results_cell_row rfl _ _ (w.heap.size+1+1+1) 87 _ (0,0) _ rfl R9 Tryz.underlying87 rfl hci
     ·have hBW:=HB5.out wr P1.out.chg
      have h:=hS.own P1.out.row (fun g' e hk=>by have:=own_base P1.out.row e;omega)
      rw [HL2.out] at h
      have hl:=P1.out.len
      rw [HL2.out] at hl
      exact ⟨A,c,by rw [HVF.out,hl],hS.below hBW hBW.size (fun k hk=>by omega),by rw [hl];exact own_base_le h (by have:=hBW.size;have:=C5.out.size;have:=Q0.out.size;omega)⟩
    have hqq':(q:Int)<(po:Int):=by omega
    have hqo:q<no:=by omega
    obtain ⟨pe,hPE,hpeb,e0⟩:=HI.out.outs.int (k:=q) (by rw [HPO.out];exact hqq)
    have e1:=((HB5.out wr P1.out.chg).cell (p:=pe.add q) (by rw [add_block];exact hpeb)).trans e0
    have hYw:=HY.out wr P1.out.chg
    rw [hPE] at hYw
    have y3:=hYw.cell 2
    obtain ⟨ps,hPS,hpsb,s0⟩:=HSI.out.o.int (k:=q) (by rw [HNO.out];exact hqo)
    have s1:=((HB5.out wr P1.out.chg).cell (p:=ps.add q) (by rw [add_block];exact hpsb)).trans s0
    have hnx:=evOut_next W H T P S q
    have HNX:=hd_ hnx
    generalize P.outs.getD q 0=x at e1 HNX
    generalize S.so.getD q 0=y at s1 HNX
    clear hPE hpeb e0 hnx y2
    by_cases hxn:x=(n:Int)
    case neg =>
     have hd:(x==(n:Int))=false:=by rw [beq_eq_false_iff_ne];exact hxn
     have HL2:=hd_ (show L=atW (evTo W H T P S pb++evOut W H T P S (q+1)) (n:Int) by rw [HNX.out,<- List.append_assoc,atW_no hxn,HLL.out])
     clear hxn
     go_wp2_with fail
     go_roundw
     case rel=>exact ⟨q+1,A,nl,c,L,by omega,by go_num,P1.out,HL2⟩
     case measure=>simp [intOf];omega
    subst hxn
    have HL2:=hd_ (show L++[nodeN W H T 2 y 0 0]=atW (evTo W H T P S pb++evOut W H T P S (q+1)) (n:Int) by rw [HNX.out,<- List.append_assoc,atW_yes,HLL.out])
    have hXw:=HX.out wr P1.out.chg
    have a0:=hXw.cell 0
    have a1:=hXw.cell 1
    have a2:=hXw.cell 2
    have hZw:=HZ.out wr P1.out.chg
    rw [hPS] at hZw
    have z2:=hZw.cell 2
    clear hXw hYw hZw hPS hpsb s0
    go_wp2_with fail
    refine wp_region_still_in (by kernel_rfl) (by kernel_rfl) fun St9 ne9 V9 hV9 hS9=>?_
    have qa0:=still_cell hV9 a0
    have qa1:=still_cell hV9 a1
    have qa2:=still_cell hV9 a2
    have qz2:=still_cell hV9 z2
    have qs1:=still_cell hV9 s1
    repeat (first|go_big_quiet_step ((go_at_call 107;exact Calls.still hV9 hS9 (rpad_any W H T y _)))|quiet_step ((go_at_call 107;exact Calls.still hV9 hS9 (rpad_any W H T y _))))
    refine wpQuiet_nil ?_
    intro _ hw9
    obtain ⟨s9,rfl⟩:=hw9
    have hb9:=hV9 s9
    clear qa0 qa1 qa2 qz2 qs1 hS9
    generalize V9 s9=w9 at hb9 ⊢
    clear hV9 s9 V9 ne9 St9
    have P9:=hd_ (P1.out.keep hb9)
    have k18:=P9.out.box.cell 1
    have hsz9:=P9.out.chg.size
    have O9:=hd_ P9.out.row
    clear hb9 a0 a1 a2 y3 z2 s1 e1
    generalize nodeN W H T 2 y 0 0=v at HL2 ⊢
    go_wp2_with (at_builtin;refine wpList_app_int rfl (.tmp 136) (.tmp 138) rfl wm.heap.size A nl c L rfl O9.out v rfl (by omega) hsz9 ?_)
    intro A3 c3 w3 hown3 hg3
    have P3:=hd_ (P9.out.push hown3 hg3)
    have hB3:=P9.out.box3 hg3
    have k19:=hB3.cell 1
    have f19:=hB3.free 1
    clear hown3 hg3 hB3 k18
    go_wp2_with fail
    go_roundw
    case rel=>exact ⟨q+1,A3,nl+1,c3,L++[v],by omega,by go_num,P3.out,HL2⟩
    case measure=>simp [intOf];omega
end Go.Proofs.YtmkiphadkmodnaaGreat
