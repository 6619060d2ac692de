/- BfM, 5 -/
import Derived.Test.YtmkiphadkmodnaaGreatZBfM4
import Derived.Test.YtmkiphadkmodnaaGreatZBfM1
import Derived.Test.YtmkiphadkmodnaaGreatZBfM0
set_option linter.all false
set_option maxRecDepth 100000
set_option maxHeartbeats 8000000
namespace Go.Proofs.YtmkiphadkmodnaaGreat
def okP (W H:Int) (c:Nat) (x y:Int):Prop:=(0<=x∧x<gw W H c)∧(0<=y∧y<gh H c)
theorem track_E {W H T:Int} (h:okA W H T) {c:Nat} (hc:c=3∨c=4) {x y t:Int} (ht:0<=t∧t<T):nodeE W H T c x y t=0↔okP W H c x y:=by
 have hgd:gd T c=T:=by rcases hc with rfl|rfl <;> rfl
 unfold nodeE okP
 constructor
 ·intro he
  split at he
  ·rename_i hh;exact ⟨hh.2.1,hh.2.2.1⟩
  ·cases he
 ·intro hp
  rw [if_pos ⟨h,hp.1,hp.2,ht.1,by rw [hgd];exact ht.2⟩]
theorem meetTo_count {W H T n:Int} (h:okA W H T) {c:Nat} (hc:c=3∨c=4) {x y:Int} (hp:okP W H c x y):∀ k:Nat,(k:Int)<=T->(meetTo W H T n c x y k).length=k
 | 0,_=>rfl
 | k+1,hk=>by
  have ih:=meetTo_count (n:=n) h hc hp k (by omega)
  have he:=(track_E h hc (t:=(k:Int)) ⟨by omega,by omega⟩).2 hp
  simp only [meetTo,if_pos he,List.length_append,ih,List.length_singleton]
theorem arC_34 (k:Nat):arC k=3∨arC k=4:=by
 rcases k with _|_|_|k <;> simp [arC]
theorem brC_34 (W H p:Int):brC W H p=3∨brC W H p=4:=by unfold brC;split <;> simp
theorem around_ok {W H x y:Int} (hx:0<=x∧x<W) (hy:0<=y∧y<H) (k:Nat):okP W H (arC k) (arX x k) (arY y k):=by
 rcases k with _|_|_|k <;> simp only [okP,arC,arX,arY,gw,gh] <;> omega
theorem border_ok {W H p:Int} (hW:1<=W) (hH:1<=H) (hp:0<=p∧p<2*W+2*H):okP W H (brC W H p) (brX W H p) (brY W H p):=by
 unfold okP brC brX brY
 by_cases c1:p<W
 ·simp only [if_pos c1,if_pos (show p<2*W by omega),gw,gh];omega
 ·by_cases c2:p<2*W
  ·simp only [if_neg c1,if_pos c2,gw,gh];omega
  ·by_cases c3:p<2*W+H
   ·simp only [if_neg c1,if_neg c2,if_pos c3,gw,gh];omega
   ·simp only [if_neg c1,if_neg c2,if_neg c3,gw,gh];omega
theorem arTo_count {W H T n x y:Int} (h:okA W H T) (hx:0<=x∧x<W) (hy:0<=y∧y<H):∀ k:Nat,(arTo W H T n x y k).length=k*T.toNat
 | 0=>by simp [arTo]
 | k+1=>by
  have hh:=h
  unfold okA at hh
  simp only [arTo,List.length_append,arTo_count h hx hy k,meetTo_count (n:=n) h (arC_34 k) (around_ok hx hy k) T.toNat (by omega)]
  rw [Nat.add_mul,Nat.one_mul]
theorem nodeL_count {W H T n:Int} (hN:isN W H T n):(nodeL W H T n).length=(if n<gat W H T 1 then 4 else if n<gat W H T 3 then 1 else 0)*T.toNat:=by
 have h:=hN.1
 have hh:=h
 unfold okA at hh
 obtain ⟨v1,v2,v3,v4,-⟩:=wh_yes hN
 obtain ⟨hk,hin,-⟩:=what_nodeAt hN
 obtain ⟨i1,i2,-⟩:=gk_in hN.2.1 hN.2.2
 have hm:=gat_mono h
 obtain ⟨⟨b1,b2⟩,⟨b3,b4⟩,b5,b6⟩:=hin
 unfold nodeL
 rw [v1,v2,v3,v4]
 rcases lt5 hk with e|e|e|e|e <;> rw [e] at i1 i2 b2 b4 b6 <;> simp only [Nat.reduceAdd,gw,gh,gd] at i1 i2 b2 b4 b6 <;> rw [e]
 ·rw [if_pos (by rfl),if_pos (by omega),arTo_count h ⟨b1,b2⟩ ⟨b3,b4⟩ 4]
 ·rw [if_neg (by omega),if_pos (by rfl),if_neg (by omega),if_pos (by omega),Nat.one_mul]
  exact meetTo_count h (arC_34 _) (around_ok ⟨b1,b2⟩ ⟨b3,b4⟩ _) _ (by omega)
 ·rw [if_neg (by omega),if_neg (by omega),if_pos (by rfl),if_neg (by omega),if_pos (by omega),Nat.one_mul]
  exact meetTo_count h (brC_34 _ _ _) (border_ok (by omega) (by omega) ⟨b1,b2⟩) _ (by omega)
 ·rw [if_neg (by omega),if_neg (by omega),if_neg (by omega),if_neg (by omega),if_neg (by omega)];simp
 ·rw [if_neg (by omega),if_neg (by omega),if_neg (by omega),if_neg (by omega),if_neg (by omega)];simp
theorem loop1_count {W H T:Int} (h:okA W H T):∀ k:Nat,(k:Int)<=nodesI W H T->((loop1 W H T k).length:Int)=(4*min (k:Int) (gat W H T 1)+(min (k:Int) (gat W H T 3)-min (k:Int) (gat W H T 1)))*T
 | 0,_=>by
  have hm:=gat_mono h
  have e0:gat W H T 0=0:=rfl
  have e1:min (((0:Nat):Int)) (gat W H T 1)=0:=by omega
  have e3:min (((0:Nat):Int)) (gat W H T 3)=0:=by omega
  rw [e1,e3]
  simp [loop1]
 | k+1,hk=>by
  have hh:=h
  unfold okA at hh
  have hm:=gat_mono h
  have ih:=loop1_count h k (by omega)
  have hc:=nodeL_count (W:=W) (H:=H) (T:=T) (n:=(k:Int)) ⟨h,by omega,by omega⟩
  obtain ⟨N,rfl⟩:∃ N:Nat,T=(N:Int):=⟨T.toNat,by omega⟩
  rw [Int.toNat_natCast] at hc
  simp only [loop1,List.length_append]
  rw [Int.natCast_add,ih,hc]
  by_cases c1:(k:Int)<gat W H (N:Int) 1
  ·rw [if_pos c1]
   have e1:min (((k+1:Nat):Int)) (gat W H (N:Int) 1)=min (k:Int) (gat W H (N:Int) 1)+1:=by omega
   have e3:min (((k+1:Nat):Int)) (gat W H (N:Int) 3)=min (k:Int) (gat W H (N:Int) 3)+1:=by omega
   rw [e1,e3,Int.natCast_mul,<- Int.add_mul]
   congr 1
   omega
  ·rw [if_neg c1]
   have e1:min (((k+1:Nat):Int)) (gat W H (N:Int) 1)=min (k:Int) (gat W H (N:Int) 1):=by omega
   by_cases c3:(k:Int)<gat W H (N:Int) 3
   ·rw [if_pos c3]
    have e3:min (((k+1:Nat):Int)) (gat W H (N:Int) 3)=min (k:Int) (gat W H (N:Int) 3)+1:=by omega
    rw [e1,e3,Int.natCast_mul,<- Int.add_mul]
    congr 1
    omega
   ·rw [if_neg c3]
    have e3:min (((k+1:Nat):Int)) (gat W H (N:Int) 3)=min (k:Int) (gat W H (N:Int) 3):=by omega
    rw [e1,e3]
    simp
def cq (W H x y:Int):Int :=
 (if 1<=x then (if x<W then 1 else 0) else 0)+(if 1<=y then (if 1<=x then 1 else 0)+(if x<W then 1 else 0) else 0)+(if y<H then (if 1<=x then 1 else 0)+(if x<W then 1 else 0)+(if 1<=y then 1 else 0) else 0)
theorem corner_count {W H T x y t:Int} (h:okA W H T) (hx:0<=x∧x<=W) (hy:0<=y∧y<=H) (ht:0<=t∧t<T):((cornerTo W H T x y t 4).length:Int)=cq W H x y:=by
 have p0:nodeE W H T (coC 0) (coX x 0) (coY y 0) t=0↔1<=x:=(track_E h (.inl rfl) ht).trans (by simp only [okP,coX,coY,gw,gh];omega)
 have p1:nodeE W H T (coC 1) (coX x 1) (coY y 1) t=0↔x<W:=(track_E h (.inl rfl) ht).trans (by simp only [okP,coX,coY,gw,gh];omega)
 have p2:nodeE W H T (coC 2) (coX x 2) (coY y 2) t=0↔1<=y:=(track_E h (.inr rfl) ht).trans (by simp only [okP,coX,coY,gw,gh];omega)
 have p3:nodeE W H T (coC 3) (coX x 3) (coY y 3) t=0↔y<H:=(track_E h (.inr rfl) ht).trans (by simp only [okP,coX,coY,gw,gh];omega)
 simp only [cornerTo,hereTo,p0,p1,p2,p3,cq]
 by_cases a:1<=x <;> by_cases b:x<W <;> by_cases c:1<=y <;> by_cases d:y<H <;> simp [a,b,c,d]
theorem tTo_count {W H T x y:Int} (h:okA W H T) (hx:0<=x∧x<=W) (hy:0<=y∧y<=H):∀ k:Nat,(k:Int)<=T->((tTo W H T x y k).length:Int)=cq W H x y*k
 | 0,_=>by simp [tTo]
 | k+1,hk=>by
  simp only [tTo,List.length_append]
  rw [Int.natCast_add,tTo_count h hx hy k (by omega),corner_count h hx hy ⟨by omega,by omega⟩,show ((k+1:Nat):Int)=(k:Int)+1 from by omega,Int.mul_add,Int.mul_one]
def cy (W H x:Int):Nat->Int
 | 0=>0
 | k+1=>cy W H x k+cq W H x (k:Int)
theorem yTo_count {W H T x:Int} (h:okA W H T) (hx:0<=x∧x<=W):∀ k:Nat,(k:Int)<=H+1->((yTo W H T x k).length:Int)=cy W H x k*T
 | 0,_=>by simp [yTo,cy]
 | k+1,hk=>by
  have hh:=h
  unfold okA at hh
  simp only [yTo,List.length_append,cy]
  rw [Int.natCast_add,yTo_count h hx k (by omega),tTo_count h hx ⟨by omega,by omega⟩ _ (by omega),Int.toNat_of_nonneg (by omega),Int.add_mul]
def cx (W H:Int):Nat->Int
 | 0=>0
 | k+1=>cx W H k+cy W H (k:Int) (H+1).toNat
theorem xTo_count {W H T:Int} (h:okA W H T):∀ k:Nat,(k:Int)<=W+1->((xTo W H T k).length:Int)=cx W H k*T
 | 0,_=>by simp [xTo,cx]
 | k+1,hk=>by
  have hh:=h
  unfold okA at hh
  simp only [xTo,List.length_append,cx]
  rw [Int.natCast_add,xTo_count h k (by omega),yTo_count h ⟨by omega,by omega⟩ _ (by omega),Int.add_mul]
theorem cy_eq {W H x:Int} (hW:1<=W) (hH:1<=H) (hx:0<=x∧x<=W):∀ k:Nat,(k:Int)<=H+1->cy W H x k =
  (if 1<=x∧x<W then (k:Int)+2*(if 1<=k then (k:Int)-1 else 0)+2*min (k:Int) H+(if 1<=min (k:Int) H then min (k:Int) H-1 else 0)
   else (if 1<=k then (k:Int)-1 else 0)+min (k:Int) H+(if 1<=min (k:Int) H then min (k:Int) H-1 else 0))
 | 0,_=>by
  have:min (((0:Nat):Int)) H=0:=by omega
  simp only [cy,this]
  simp
 | k+1,hk=>by
  rw [cy,cy_eq hW hH hx k (by omega)]
  unfold cq
  by_cases a:1<=x <;> by_cases b:x<W <;> by_cases c:1<=(k:Int) <;> by_cases d:(k:Int)<H <;> simp only [a,b,c,d,true_and,false_and,and_self,if_true,if_false] <;> (repeat' split) <;> omega
theorem cy_full {W H x:Int} (hW:1<=W) (hH:1<=H) (hx:0<=x∧x<=W):cy W H x (H+1).toNat=if 1<=x∧x<W then 6*H else 3*H-1:=by
 rw [cy_eq hW hH hx _ (by omega)]
 have e:(((H+1).toNat:Nat):Int)=H+1:=by omega
 have m:min (H+1) H=H:=by omega
 rw [e,m,if_pos (show 1<=(H+1).toNat by omega),if_pos hH]
 split <;> omega
theorem cx_eq {W H:Int} (hW:1<=W) (hH:1<=H):∀ k:Nat,(k:Int)<=W->cx W H (k+1)=3*H-1+(if (k:Int)<W then (k:Int)*(6*H) else ((k:Int)-1)*(6*H)+(3*H-1))
 | 0,_=>by
  rw [cx,cx,cy_full hW hH ⟨by omega,by omega⟩,if_neg (by omega),if_pos (by omega)]
  simp
 | k+1,hk=>by
  rw [cx,cx_eq hW hH k (by omega),cy_full hW hH ⟨by omega,by omega⟩,if_pos (show (k:Int)<W by omega)]
  by_cases c:((k+1:Nat):Int)<W
  ·rw [if_pos ⟨by omega,c⟩,if_pos c,show ((k+1:Nat):Int)=(k:Int)+1 from by omega,Int.add_mul,Int.one_mul]
   omega
  ·rw [if_neg (by omega),if_neg c,show ((k+1:Nat):Int)-1=(k:Int) from by omega]
   omega
theorem rawL_count {W H T:Int} (h:okA W H T):((rawL W H T).length:Int)=T*(8*W*H+(2*W+2*H)+6*(W-1)*(H-1)+3*(2*(W-1)+2*(H-1))+4):=by
 have hh:=h
 unfold okA at hh
 have hm:=gat_mono h
 have hnb:=nodes_bd h
 have e0:gat W H T 0=0:=rfl
 have e1:gat W H T 1=gat W H T 0+W*H*1:=rfl
 have e2:gat W H T 2=gat W H T 1+W*H*4:=rfl
 have e3:gat W H T 3=gat W H T 2+(2*W+2*H)*1*1:=rfl
 have hN:(((nodesI W H T).toNat:Nat):Int)=nodesI W H T:=by omega
 obtain ⟨k,hk⟩:∃ k:Nat,(W+1).toNat=k+1:=⟨W.toNat,by omega⟩
 have hkW:(k:Int)=W:=by omega
 unfold rawL
 rw [List.length_append,Int.natCast_add,loop1_count h _ (by omega),hN,xTo_count h _ (by omega),hk,cx_eq (by omega) (by omega) k (by omega),if_neg (by omega),hkW]
 have m1:min (nodesI W H T) (gat W H T 1)=gat W H T 1:=by unfold nodesI;omega
 have m3:min (nodesI W H T) (gat W H T 3)=gat W H T 3:=by unfold nodesI;omega
 rw [m1,m3,<- Int.add_mul,Int.mul_comm _ T]
 congr 1
 have f1:(W-1)*(6*H)=6*(W*H)-6*H:=by rw [Int.sub_mul,Int.one_mul,Int.mul_left_comm]
 have f2:8*W*H=8*(W*H):=Int.mul_assoc 8 W H
 have f3:6*(W-1)*(H-1)=6*(W*H)-6*W-6*H+6:=by
  have g:W*(H-1)=W*H-W:=by rw [Int.mul_sub,Int.mul_one]
  rw [Int.mul_assoc,Int.sub_mul,Int.one_mul,g];omega
 rw [f1,f2,f3]
 omega
end Go.Proofs.YtmkiphadkmodnaaGreat
namespace Go.Proofs.YtmkiphadkmodnaaGreat
theorem track_at {W H T:Int} (h:okA W H T) {c:Nat} (hc:c=3∨c=4) {x y t:Int} (hp:okP W H c x y) (ht:0<=t∧t<T) :
  isN W H T (nodeN W H T c x y t)∧gk W H T (nodeN W H T c x y t)=c∧wx W H T (nodeN W H T c x y t)=x∧wy W H T (nodeN W H T c x y t)=y∧wt W H T (nodeN W H T c x y t)=t∧nodeN W H T c x y t=nodeAt W H T c x y t:=by
 have hgd:gd T c=T:=by rcases hc with rfl|rfl <;> rfl
 have hg:inG W H T c x y t:=⟨hp.1,hp.2,ht.1,by rw [hgd];exact ht.2⟩
 have e:nodeN W H T c x y t=nodeAt W H T c x y t:=by unfold nodeN;rw [if_pos ⟨h,hg⟩]
 rw [e]
 obtain ⟨a1,a2,a3,a4,a5⟩:=nodeAt_what h (by omega) hg
 exact ⟨a1,a2,a3,a4,a5,rfl⟩
theorem gk_lt_of {W H T:Int} (h:okA W H T) {m n:Int} (hm:isN W H T m) (hn:isN W H T n) (hg:gk W H T m<gk W H T n):m<n:=by
 obtain ⟨a1,a2,a3⟩:=gk_in hm.2.1 hm.2.2
 obtain ⟨b1,b2,b3⟩:=gk_in hn.2.1 hn.2.2
 have hmo:=gat_mono h
 have e0:gat W H T 0=0:=rfl
 rcases lt5 a3 with e|e|e|e|e <;> rcases lt5 b3 with f|f|f|f|f <;> rw [e] at a1 a2 hg <;> rw [f] at b1 b2 hg <;> simp only [Nat.reduceAdd] at a1 a2 b1 b2 <;> omega
theorem mem_meetTo {W H T n:Int} {c:Nat} {x y:Int} {p:Int × Int}:∀ {k:Nat},p ∈ meetTo W H T n c x y k↔∃ t:Nat,t<k∧nodeE W H T c x y (t:Int)=0∧p=(lo n (nodeN W H T c x y (t:Int)),hi n (nodeN W H T c x y (t:Int)))
 | 0=>by simp [meetTo]
 | k+1=>by
  simp only [meetTo,List.mem_append,mem_meetTo (k:=k)]
  constructor
  ·rintro (⟨t,h1,h2,h3⟩|hp)
   ·exact ⟨t,by omega,h2,h3⟩
   ·split at hp
    ·rename_i he
     exact ⟨k,by omega,he,by simpa using hp⟩
    ·cases hp
  ·rintro ⟨t,h1,h2,h3⟩
   by_cases e:t=k
   ·subst e
    exact .inr (by rw [if_pos h2];simpa using h3)
   ·exact .inl ⟨t,by omega,h2,h3⟩
def Leads (W H T:Int) (n:Int) (c:Nat) (x y:Int) (k:Nat) (p:Int × Int):Prop :=
 p.1=n∧n<p.2∧isN W H T p.2∧gk W H T p.2=c∧wx W H T p.2=x∧wy W H T p.2=y∧0<=wt W H T p.2∧wt W H T p.2<k
theorem meetTo_leads {W H T n:Int} (h:okA W H T) (hN:isN W H T n) (hg3:gk W H T n<3) {c:Nat} (hc:c=3∨c=4) {x y:Int} (hp:okP W H c x y) {k:Nat} (hk:(k:Int)<=T) {p:Int × Int} (hm:p ∈ meetTo W H T n c x y k):Leads W H T n c x y k p:=by
 obtain ⟨t,h1,h2,rfl⟩:=mem_meetTo.1 hm
 obtain ⟨a1,a2,a3,a4,a5,-⟩:=track_at h hc hp (t:=(t:Int)) ⟨by omega,by omega⟩
 have hlt:=gk_lt_of h hN a1 (by rw [a2];omega)
 have e1:lo n (nodeN W H T c x y (t:Int))=n:=by unfold lo;rw [if_neg (by omega)]
 have e2:hi n (nodeN W H T c x y (t:Int))=nodeN W H T c x y (t:Int):=by unfold hi;rw [if_pos (by omega)]
 rw [e1,e2]
 exact ⟨rfl,hlt,a1,a2,a3,a4,by rw [a5];omega,by rw [a5];omega⟩
theorem meetTo_nodup {W H T n:Int} (h:okA W H T) (hN:isN W H T n) (hg3:gk W H T n<3) {c:Nat} (hc:c=3∨c=4) {x y:Int} (hp:okP W H c x y):∀ {k:Nat},(k:Int)<=T->(meetTo W H T n c x y k).Nodup
 | 0,_=>by simp [meetTo]
 | k+1,hk=>by
  simp only [meetTo]
  rw [List.nodup_append]
  refine ⟨meetTo_nodup h hN hg3 hc hp (k:=k) (by omega),by split <;> simp,?_⟩
  intro a ha b hb hab
  subst hab
  have l1:=meetTo_leads h hN hg3 hc hp (by omega) ha
  split at hb
  ·rename_i he
   have hb':a=(lo n (nodeN W H T c x y (k:Int)),hi n (nodeN W H T c x y (k:Int))):=by simpa using hb
   obtain ⟨a1,a2,a3,a4,a5,-⟩:=track_at h hc hp (t:=(k:Int)) ⟨by omega,by omega⟩
   have hlt:=gk_lt_of h hN a1 (by rw [a2];omega)
   have e2:hi n (nodeN W H T c x y (k:Int))=nodeN W H T c x y (k:Int):=by unfold hi;rw [if_pos (by omega)]
   have:=l1.2.2.2.2.2.2.2
   rw [hb',e2] at this
   simp only [a5] at this
   omega
  ·cases hb
theorem ar_apart {x y:Int} {i j:Nat} (hi:i<j) (hj:j<4):¬ (arC i=arC j∧arX x i=arX x j∧arY y i=arY y j):=by
 rcases lt4 hj with rfl|rfl|rfl|rfl
 ·omega
 ·obtain rfl:i=0:=by omega
  simp [arC]
 ·rcases (show i=0∨i=1 by omega) with rfl|rfl <;> simp [arC,arX,arY];omega
 ·rcases (show i=0∨i=1∨i=2 by omega) with rfl|rfl|rfl <;> simp [arC,arX,arY];omega
theorem mem_arTo {W H T n x y:Int} {p:Int × Int}:∀ {k:Nat},p ∈ arTo W H T n x y k↔∃ j:Nat,j<k∧p ∈ meetTo W H T n (arC j) (arX x j) (arY y j) T.toNat
 | 0=>by simp [arTo]
 | k+1=>by
  simp only [arTo,List.mem_append,mem_arTo (k:=k)]
  constructor
  ·rintro (⟨j,h1,h2⟩|hp)
   ·exact ⟨j,by omega,h2⟩
   ·exact ⟨k,by omega,hp⟩
  ·rintro ⟨j,h1,h2⟩
   by_cases e:j=k
   ·subst e;exact .inr h2
   ·exact .inl ⟨j,by omega,h2⟩
theorem arTo_nodup {W H T n x y:Int} (h:okA W H T) (hN:isN W H T n) (hg3:gk W H T n<3) (hx:0<=x∧x<W) (hy:0<=y∧y<H):∀ {k:Nat},k<=4->(arTo W H T n x y k).Nodup
 | 0,_=>by simp [arTo]
 | k+1,hk=>by
  have hh:=h
  unfold okA at hh
  simp only [arTo]
  rw [List.nodup_append]
  refine ⟨arTo_nodup h hN hg3 hx hy (k:=k) (by omega),meetTo_nodup h hN hg3 (arC_34 k) (around_ok hx hy k) (by omega),?_⟩
  intro a ha b hb hab
  subst hab
  obtain ⟨j,hj,hm⟩:=mem_arTo.1 ha
  have l1:=meetTo_leads h hN hg3 (arC_34 j) (around_ok hx hy j) (by omega) hm
  have l2:=meetTo_leads h hN hg3 (arC_34 k) (around_ok hx hy k) (by omega) hb
  exact ar_apart hj (by omega) ⟨l1.2.2.2.1.symm.trans l2.2.2.2.1,l1.2.2.2.2.1.symm.trans l2.2.2.2.2.1,l1.2.2.2.2.2.1.symm.trans l2.2.2.2.2.2.1⟩
def Side (W H T:Int) (p:Int × Int):Prop:=isN W H T p.1∧gk W H T p.1<3∧p.1<p.2∧isN W H T p.2∧(gk W H T p.2=3∨gk W H T p.2=4)
theorem nodeL_side {W H T n:Int} (hN:isN W H T n) {p:Int × Int} (hm:p ∈ nodeL W H T n):Side W H T p∧p.1=n:=by
 have h:=hN.1
 have hh:=h
 unfold okA at hh
 obtain ⟨v1,v2,v3,v4,-⟩:=wh_yes hN
 obtain ⟨hk,hin,-⟩:=what_nodeAt hN
 obtain ⟨⟨b1,b2⟩,⟨b3,b4⟩,b5,b6⟩:=hin
 have fin:∀ {c:Nat} {x y:Int},gk W H T n<3->(c=3∨c=4)->okP W H c x y->p ∈ meetTo W H T n c x y T.toNat->Side W H T p∧p.1=n:=by
  intro c x y hg hc hp hm
  have l:=meetTo_leads h hN hg hc hp (by omega) hm
  refine ⟨⟨by rw [l.1];exact hN,by rw [l.1];exact hg,by rw [l.1];exact l.2.1,l.2.2.1,by rw [l.2.2.2.1];exact hc⟩,l.1⟩
 unfold nodeL at hm
 rw [v1,v2,v3,v4] at hm
 rcases lt5 hk with e|e|e|e|e <;> rw [e] at b2 b4 b6 hm <;> simp only [gw,gh,gd] at b2 b4 b6
 ·rw [if_pos (by rfl)] at hm
  obtain ⟨j,hj,hm⟩:=mem_arTo.1 hm
  exact fin (by omega) (arC_34 j) (around_ok ⟨b1,b2⟩ ⟨b3,b4⟩ j) hm
 ·rw [if_neg (by omega),if_pos (by rfl)] at hm
  exact fin (by omega) (arC_34 _) (around_ok ⟨b1,b2⟩ ⟨b3,b4⟩ _) hm
 ·rw [if_neg (by omega),if_neg (by omega),if_pos (by rfl)] at hm
  exact fin (by omega) (brC_34 _ _ _) (border_ok (by omega) (by omega) ⟨b1,b2⟩) hm
 ·rw [if_neg (by omega),if_neg (by omega),if_neg (by omega)] at hm;cases hm
 ·rw [if_neg (by omega),if_neg (by omega),if_neg (by omega)] at hm;cases hm
theorem nodeL_nodup {W H T n:Int} (hN:isN W H T n):(nodeL W H T n).Nodup:=by
 have h:=hN.1
 have hh:=h
 unfold okA at hh
 obtain ⟨v1,v2,v3,v4,-⟩:=wh_yes hN
 obtain ⟨hk,hin,-⟩:=what_nodeAt hN
 obtain ⟨⟨b1,b2⟩,⟨b3,b4⟩,b5,b6⟩:=hin
 unfold nodeL
 rw [v1,v2,v3,v4]
 rcases lt5 hk with e|e|e|e|e <;> rw [e] at b2 b4 b6 <;> simp only [gw,gh,gd] at b2 b4 b6 <;> rw [e]
 ·rw [if_pos (by rfl)]
  exact arTo_nodup h hN (by omega) ⟨b1,b2⟩ ⟨b3,b4⟩ (by omega)
 ·rw [if_neg (by omega),if_pos (by rfl)]
  exact meetTo_nodup h hN (by omega) (arC_34 _) (around_ok ⟨b1,b2⟩ ⟨b3,b4⟩ _) (by omega)
 ·rw [if_neg (by omega),if_neg (by omega),if_pos (by rfl)]
  exact meetTo_nodup h hN (by omega) (brC_34 _ _ _) (border_ok (by omega) (by omega) ⟨b1,b2⟩) (by omega)
 ·rw [if_neg (by omega),if_neg (by omega),if_neg (by omega)];simp
 ·rw [if_neg (by omega),if_neg (by omega),if_neg (by omega)];simp
theorem loop1_side {W H T:Int} (h:okA W H T):∀ {k:Nat},(k:Int)<=nodesI W H T->∀ p ∈ loop1 W H T k,Side W H T p∧p.1<k
 | 0,_,p,hp=>by simp [loop1] at hp
 | k+1,hk,p,hp=>by
  simp only [loop1,List.mem_append] at hp
  rcases hp with hp|hp
  ·have:=loop1_side h (k:=k) (by omega) p hp
   exact ⟨this.1,by omega⟩
  ·have:=nodeL_side (n:=(k:Int)) ⟨h,by omega,by omega⟩ hp
   exact ⟨this.1,by omega⟩
theorem loop1_nodup {W H T:Int} (h:okA W H T):∀ {k:Nat},(k:Int)<=nodesI W H T->(loop1 W H T k).Nodup
 | 0,_=>by simp [loop1]
 | k+1,hk=>by
  simp only [loop1]
  rw [List.nodup_append]
  refine ⟨loop1_nodup h (k:=k) (by omega),nodeL_nodup ⟨h,by omega,by omega⟩,?_⟩
  intro a ha b hb hab
  subst hab
  have l1:=loop1_side h (k:=k) (by omega) a ha
  have l2:=nodeL_side (n:=(k:Int)) ⟨h,by omega,by omega⟩ hb
  omega
theorem coC_34 (k:Nat):coC k=3∨coC k=4:=by
 rcases k with _|_|k <;> simp [coC]
def co (W H T x y t:Int) (i:Nat):Int:=nodeN W H T (coC i) (coX x i) (coY y i) t
def coOk (W H x y:Int) (i:Nat):Prop:=okP W H (coC i) (coX x i) (coY y i)
theorem co_at {W H T:Int} (h:okA W H T) {x y t:Int} (ht:0<=t∧t<T) {i:Nat} (hi:coOk W H x y i) :
  isN W H T (co W H T x y t i)∧gk W H T (co W H T x y t i)=coC i∧wx W H T (co W H T x y t i)=coX x i∧wy W H T (co W H T x y t i)=coY y i∧wt W H T (co W H T x y t i)=t∧co W H T x y t i=nodeAt W H T (coC i) (coX x i) (coY y i) t :=
 track_at h (coC_34 i) hi ht
theorem co_E {W H T:Int} (h:okA W H T) {x y t:Int} (ht:0<=t∧t<T) (i:Nat):nodeE W H T (coC i) (coX x i) (coY y i) t=0↔coOk W H x y i:=track_E h (coC_34 i) ht
theorem co_lt {W H T:Int} (h:okA W H T) {x y t:Int} (ht:0<=t∧t<T) {i j:Nat} (hij:i<j) (hj:j<4) (oi:coOk W H x y i) (oj:coOk W H x y j):co W H T x y t i<co W H T x y t j:=by
 have hh:=h
 unfold okA at hh
 obtain ⟨a1,a2,a3,a4,a5,a6⟩:=co_at h ht oi
 obtain ⟨b1,b2,b3,b4,b5,b6⟩:=co_at h ht oj
 rcases lt4 hj with rfl|rfl|rfl|rfl
 ·omega
 ·obtain rfl:i=0:=by omega
  rw [a6,b6]
  simp only [nodeAt,coC,coX,coY,gw,gd]
  rw [Int.add_mul,Int.add_mul,Int.sub_mul]
  omega
 ·rcases (show i=0∨i=1 by omega) with rfl|rfl
  ·exact gk_lt_of h a1 b1 (by rw [a2,b2];decide)
  ·exact gk_lt_of h a1 b1 (by rw [a2,b2];decide)
 ·rcases (show i=0∨i=1∨i=2 by omega) with rfl|rfl|rfl
  ·exact gk_lt_of h a1 b1 (by rw [a2,b2];decide)
  ·exact gk_lt_of h a1 b1 (by rw [a2,b2];decide)
  ·rw [a6,b6]
   simp only [nodeAt,coC,coX,coY,gw,gd]
   have:(y-1)*(W+1)=y*(W+1)-(W+1):=by rw [Int.sub_mul,Int.one_mul]
   rw [this]
   have e:(y*(W+1)+x)*T-(y*(W+1)-(W+1)+x)*T=(W+1)*T:=by rw [<- Int.sub_mul];congr 1;omega
   have:0<(W+1)*T:=Int.mul_pos (by omega) (by omega)
   omega
theorem mem_hereTo {W H T:Int} (h:okA W H T) {x y t:Int} (ht:0<=t∧t<T) {m:Int}:∀ {k:Nat},m ∈ hereTo W H T x y t k↔∃ i:Nat,i<k∧coOk W H x y i∧m=co W H T x y t i
 | 0=>by simp [hereTo]
 | k+1=>by
  simp only [hereTo,List.mem_append,mem_hereTo h ht (k:=k)]
  constructor
  ·rintro (⟨i,h1,h2,h3⟩|hp)
   ·exact ⟨i,by omega,h2,h3⟩
   ·split at hp
    ·rename_i he
     exact ⟨k,by omega,(co_E h ht k).1 he,by simpa [co] using hp⟩
    ·cases hp
  ·rintro ⟨i,h1,h2,h3⟩
   by_cases e:i=k
   ·subst e
    exact .inr (by rw [if_pos ((co_E h ht i).2 h2)];simpa [co] using h3)
   ·exact .inl ⟨i,by omega,h2,h3⟩
theorem mem_cornerTo {W H T:Int} (h:okA W H T) {x y t:Int} (ht:0<=t∧t<T) {p:Int × Int}:∀ {k:Nat},k<=4->(p ∈ cornerTo W H T x y t k↔∃ i j:Nat,i<j∧j<k∧coOk W H x y i∧coOk W H x y j∧p=(co W H T x y t i,co W H T x y t j))
 | 0,_=>by simp [cornerTo]
 | k+1,hk=>by
  simp only [cornerTo,List.mem_append,mem_cornerTo h ht (k:=k) (by omega)]
  constructor
  ·rintro (⟨i,j,h1,h2,h3⟩|hp)
   ·exact ⟨i,j,h1,by omega,h3⟩
   ·split at hp
    ·rename_i he
     obtain ⟨m,hm,rfl⟩:=List.mem_map.1 hp
     obtain ⟨i,hik,oi,rfl⟩:=(mem_hereTo h ht).1 hm
     have ok:=(co_E h ht k).1 he
     have hlt:=co_lt h ht hik (by omega) oi ok
     refine ⟨i,k,hik,by omega,oi,ok,?_⟩
     unfold lo hi
     unfold co at hlt ⊢
     rw [if_neg (by omega),if_pos (by omega)]
    ·cases hp
  ·rintro ⟨i,j,h1,h2,oi,oj,rfl⟩
   by_cases e:j=k
   ·subst e
    refine .inr ?_
    rw [if_pos ((co_E h ht j).2 oj)]
    refine List.mem_map.2 ⟨co W H T x y t i,(mem_hereTo h ht).2 ⟨i,h1,oi,rfl⟩,?_⟩
    have hlt:=co_lt h ht h1 (by omega) oi oj
    unfold lo hi
    unfold co at hlt ⊢
    rw [if_neg (by omega),if_pos (by omega)]
   ·exact .inl ⟨i,j,h1,by omega,oi,oj,rfl⟩
end Go.Proofs.YtmkiphadkmodnaaGreat
namespace Go.Proofs.YtmkiphadkmodnaaGreat
theorem co_inj {W H T:Int} (h:okA W H T) {x y t:Int} (ht:0<=t∧t<T) {i j:Nat} (hi:i<4) (hj:j<4) (oi:coOk W H x y i) (oj:coOk W H x y j) (e:co W H T x y t i=co W H T x y t j):i=j:=by
 rcases Nat.lt_trichotomy i j with l|l|l
 ·have:=co_lt h ht l hj oi oj;omega
 ·exact l
 ·have:=co_lt h ht l hi oj oi;omega
theorem hereTo_nodup {W H T:Int} (h:okA W H T) {x y t:Int} (ht:0<=t∧t<T):∀ {k:Nat},k<=4->(hereTo W H T x y t k).Nodup
 | 0,_=>by simp [hereTo]
 | k+1,hk=>by
  simp only [hereTo]
  rw [List.nodup_append]
  refine ⟨hereTo_nodup h ht (k:=k) (by omega),by split <;> simp,?_⟩
  intro a ha b hb hab
  subst hab
  obtain ⟨i,h1,h2,h3⟩:=(mem_hereTo h ht).1 ha
  split at hb
  ·rename_i he
   have hb':a=co W H T x y t k:=by simpa [co] using hb
   have:=co_inj h ht (by omega) (by omega) h2 ((co_E h ht k).1 he) (h3.symm.trans hb')
   omega
  ·cases hb
theorem cornerTo_nodup {W H T:Int} (h:okA W H T) {x y t:Int} (ht:0<=t∧t<T):∀ {k:Nat},k<=4->(cornerTo W H T x y t k).Nodup
 | 0,_=>by simp [cornerTo]
 | k+1,hk=>by
  simp only [cornerTo]
  rw [List.nodup_append]
  refine ⟨cornerTo_nodup h ht (k:=k) (by omega),?_,?_⟩
  ·split
   ·rename_i he
    have ok:=(co_E h ht k).1 he
    refine List.Pairwise.map _ (fun a b hab=>?_) (List.Pairwise.and_mem.1 (hereTo_nodup h ht (k:=k) (by omega)))
    obtain ⟨ha,hb,hne⟩:=hab
    obtain ⟨i,h1,oi,rfl⟩:=(mem_hereTo h ht).1 ha
    obtain ⟨j,h2,oj,rfl⟩:=(mem_hereTo h ht).1 hb
    have l1:=co_lt h ht h1 (by omega) oi ok
    have l2:=co_lt h ht h2 (by omega) oj ok
    unfold co at l1 l2 hne ⊢
    intro e
    have e1:=congrArg Prod.fst e
    simp only [lo] at e1
    rw [if_neg (by omega),if_neg (by omega)] at e1
    exact hne e1
   ·simp
  ·intro a ha b hb hab
   subst hab
   obtain ⟨i,j,h1,h2,oi,oj,rfl⟩:=(mem_cornerTo h ht (k:=k) (by omega)).1 ha
   split at hb
   ·rename_i he
    have ok:=(co_E h ht k).1 he
    obtain ⟨m,hm,e⟩:=List.mem_map.1 hb
    obtain ⟨i',h1',oi',rfl⟩:=(mem_hereTo h ht).1 hm
    have l1:=co_lt h ht h1' (by omega) oi' ok
    have e2:=congrArg Prod.snd e
    have l2:co W H T x y t j<co W H T x y t k:=co_lt h ht h2 (by omega) oj ok
    unfold co at l1 l2 e2
    simp only [hi] at e2
    rw [if_pos (by omega)] at e2
    omega
   ·cases hb
def meetX (W H T:Int) (p:Int × Int):Int:=if gk W H T p.2=3 then max (wx W H T p.1) (wx W H T p.2) else wx W H T p.2
def meetY (W H T:Int) (p:Int × Int):Int:=if gk W H T p.1=3 then wy W H T p.1 else max (wy W H T p.1) (wy W H T p.2)
def Both (W H T:Int) (p:Int × Int):Prop:=p.1<p.2∧isN W H T p.1∧isN W H T p.2∧(gk W H T p.1=3∨gk W H T p.1=4)∧(gk W H T p.2=3∨gk W H T p.2=4)∧wt W H T p.1=wt W H T p.2
theorem corner_both {W H T:Int} (h:okA W H T) {x y t:Int} (ht:0<=t∧t<T) {p:Int × Int} (hp:p ∈ cornerTo W H T x y t 4):Both W H T p∧meetX W H T p=x∧meetY W H T p=y∧wt W H T p.1=t:=by
 obtain ⟨i,j,h1,h2,oi,oj,rfl⟩:=(mem_cornerTo h ht (by omega)).1 hp
 obtain ⟨a1,a2,a3,a4,a5,-⟩:=co_at h ht oi
 obtain ⟨b1,b2,b3,b4,b5,-⟩:=co_at h ht oj
 refine ⟨⟨co_lt h ht h1 h2 oi oj,a1,b1,by rw [a2];exact coC_34 i,by rw [b2];exact coC_34 j,a5.trans b5.symm⟩,?_,?_,a5⟩
 ·simp only [meetX,a2,b2,a3,b3]
  rcases lt4 h2 with rfl|rfl|rfl|rfl
  ·omega
  ·obtain rfl:i=0:=by omega
   simp only [coC,coX,if_true];omega
  ·simp [coC,coX]
  ·simp [coC,coX]
 ·simp only [meetY,a2,b2,a4,b4]
  rcases lt4 h2 with rfl|rfl|rfl|rfl
  ·omega
  ·obtain rfl:i=0:=by omega
   simp [coC,coY]
  ·rcases (show i=0∨i=1 by omega) with rfl|rfl <;> simp [coC,coY]
  ·rcases (show i=0∨i=1∨i=2 by omega) with rfl|rfl|rfl <;> simp [coC,coY] <;> omega
theorem tTo_mem {W H T:Int} (h:okA W H T) {x y:Int}:∀ {k:Nat},(k:Int)<=T->∀ p ∈ tTo W H T x y k,Both W H T p∧meetX W H T p=x∧meetY W H T p=y∧wt W H T p.1<k
 | 0,_,p,hp=>by simp [tTo] at hp
 | k+1,hk,p,hp=>by
  simp only [tTo,List.mem_append] at hp
  rcases hp with hp|hp
  ·have:=tTo_mem h (k:=k) (by omega) p hp
   exact ⟨this.1,this.2.1,this.2.2.1,by omega⟩
  ·have:=corner_both h ⟨by omega,by omega⟩ hp
   exact ⟨this.1,this.2.1,this.2.2.1,by omega⟩
theorem tTo_nodup {W H T:Int} (h:okA W H T) {x y:Int}:∀ {k:Nat},(k:Int)<=T->(tTo W H T x y k).Nodup
 | 0,_=>by simp [tTo]
 | k+1,hk=>by
  simp only [tTo]
  rw [List.nodup_append]
  refine ⟨tTo_nodup h (k:=k) (by omega),cornerTo_nodup h ⟨by omega,by omega⟩ (by omega),?_⟩
  intro a ha b hb hab
  subst hab
  have l1:=tTo_mem h (k:=k) (by omega) a ha
  have l2:=corner_both h ⟨by omega,by omega⟩ hb
  omega
theorem yTo_mem {W H T:Int} (h:okA W H T) {x:Int}:∀ {k:Nat},∀ p ∈ yTo W H T x k,Both W H T p∧meetX W H T p=x∧meetY W H T p<k
 | 0,p,hp=>by simp [yTo] at hp
 | k+1,p,hp=>by
  have hh:=h
  unfold okA at hh
  simp only [yTo,List.mem_append] at hp
  rcases hp with hp|hp
  ·have:=yTo_mem h (k:=k) p hp
   exact ⟨this.1,this.2.1,by omega⟩
  ·have:=tTo_mem h (by omega) p hp
   exact ⟨this.1,this.2.1,by omega⟩
theorem yTo_nodup {W H T:Int} (h:okA W H T) {x:Int}:∀ {k:Nat},(yTo W H T x k).Nodup
 | 0=>by simp [yTo]
 | k+1=>by
  have hh:=h
  unfold okA at hh
  simp only [yTo]
  rw [List.nodup_append]
  refine ⟨yTo_nodup h,tTo_nodup h (by omega),?_⟩
  intro a ha b hb hab
  subst hab
  have l1:=yTo_mem h a ha
  have l2:=tTo_mem h (by omega) a hb
  omega
theorem xTo_mem {W H T:Int} (h:okA W H T):∀ {k:Nat},∀ p ∈ xTo W H T k,Both W H T p∧meetX W H T p<k
 | 0,p,hp=>by simp [xTo] at hp
 | k+1,p,hp=>by
  simp only [xTo,List.mem_append] at hp
  rcases hp with hp|hp
  ·have:=xTo_mem h (k:=k) p hp
   exact ⟨this.1,by omega⟩
  ·have:=yTo_mem h p hp
   exact ⟨this.1,by omega⟩
theorem xTo_nodup {W H T:Int} (h:okA W H T):∀ {k:Nat},(xTo W H T k).Nodup
 | 0=>by simp [xTo]
 | k+1=>by
  simp only [xTo]
  rw [List.nodup_append]
  refine ⟨xTo_nodup h,yTo_nodup h,?_⟩
  intro a ha b hb hab
  subst hab
  have l1:=xTo_mem h a ha
  have l2:=yTo_mem h a hb
  omega
theorem rawL_mem {W H T:Int} (h:okA W H T) {p:Int × Int} (hp:p ∈ rawL W H T):Side W H T p∨Both W H T p:=by
 have hnb:=nodes_bd h
 unfold rawL at hp
 rcases List.mem_append.1 hp with hp|hp
 ·exact .inl (loop1_side h (by omega) p hp).1
 ·exact .inr (xTo_mem h p hp).1
theorem rawL_nodup {W H T:Int} (h:okA W H T):(rawL W H T).Nodup:=by
 have hnb:=nodes_bd h
 unfold rawL
 rw [List.nodup_append]
 refine ⟨loop1_nodup h (by omega),xTo_nodup h,?_⟩
 intro a ha b hb hab
 subst hab
 have l1:=(loop1_side h (by omega) a ha).1
 have l2:=(xTo_mem h a hb).1
 have:=l1.2.1
 rcases l2.2.2.2.1 with e|e <;> omega
end Go.Proofs.YtmkiphadkmodnaaGreat
namespace Go.Proofs.YtmkiphadkmodnaaGreat
open Go.RowKit
end Go.Proofs.YtmkiphadkmodnaaGreat
namespace Go.Proofs.YtmkiphadkmodnaaGreat
theorem mem_rawL_corner {W H T:Int} (h:okA W H T) {x y t:Nat} (hx:(x:Int)<=W) (hy:(y:Int)<=H) (ht:(t:Int)<T) {p:Int × Int} (hp:p ∈ cornerTo W H T x y t 4):p ∈ rawL W H T:=by
 have m1:∀ k:Nat,t<k->p ∈ tTo W H T x y k:=by
  intro k
  induction k with
  | zero=>intro h;omega
  | succ k ih =>
   intro hk
   simp only [tTo,List.mem_append]
   by_cases e:t=k
   ·subst e;exact .inr hp
   ·exact .inl (ih (by omega))
 have m2:∀ k:Nat,y<k->p ∈ yTo W H T x k:=by
  intro k
  induction k with
  | zero=>intro h;omega
  | succ k ih =>
   intro hk
   simp only [yTo,List.mem_append]
   by_cases e:y=k
   ·subst e;exact .inr (m1 _ (by omega))
   ·exact .inl (ih (by omega))
 have m3:∀ k:Nat,x<k->p ∈ xTo W H T k:=by
  intro k
  induction k with
  | zero=>intro h;omega
  | succ k ih =>
   intro hk
   simp only [xTo,List.mem_append]
   by_cases e:x=k
   ·subst e;exact .inr (m2 _ (by omega))
   ·exact .inl (ih (by omega))
 unfold rawL
 exact List.mem_append.2 (.inr (m3 _ (by omega)))
def horN (W H T x y t:Int):Int:=nodeN W H T 3 x y t
def verN (W H T x y t:Int):Int:=nodeN W H T 4 x y t
theorem co0 (W H T x y t:Int):co W H T x y t 0=horN W H T (x-1) y t:=rfl
theorem co1 (W H T x y t:Int):co W H T x y t 1=horN W H T x y t:=rfl
theorem co2 (W H T x y t:Int):co W H T x y t 2=verN W H T x (y-1) t:=rfl
theorem co3 (W H T x y t:Int):co W H T x y t 3=verN W H T x y t:=rfl
theorem ok0 {W H x y:Int}:coOk W H x y 0↔(0<=x-1∧x-1<W)∧(0<=y∧y<H+1):=Iff.rfl
theorem ok1 {W H x y:Int}:coOk W H x y 1↔(0<=x∧x<W)∧(0<=y∧y<H+1):=Iff.rfl
theorem ok2 {W H x y:Int}:coOk W H x y 2↔(0<=x∧x<W+1)∧(0<=y-1∧y-1<H):=Iff.rfl
theorem ok3 {W H x y:Int}:coOk W H x y 3↔(0<=x∧x<W+1)∧(0<=y∧y<H):=Iff.rfl
end Go.Proofs.YtmkiphadkmodnaaGreat
namespace Go.Proofs.YtmkiphadkmodnaaGreat
def trk (W H T:Int) (c:Nat) (x y:Int) (k:Nat):List Int:=(List.range k).map fun (t:Nat)=>nodeN W H T c x y (t:Int)
theorem trk_succ (W H T:Int) (c:Nat) (x y:Int) (k:Nat):trk W H T c x y (k+1)=trk W H T c x y k++[nodeN W H T c x y (k:Int)]:=by
 simp [trk,List.range_succ]
theorem trk_length (W H T:Int) (c:Nat) (x y:Int) (k:Nat):(trk W H T c x y k).length=k:=by simp [trk]
theorem mem_trk {W H T:Int} {c:Nat} {x y:Int} {k:Nat} {m:Int}:m ∈ trk W H T c x y k↔∃ t:Nat,t<k∧m=nodeN W H T c x y (t:Int):=by
 simp only [trk,List.mem_map,List.mem_range]
 constructor
 ·rintro ⟨t,h,e⟩;exact ⟨t,h,e.symm⟩
 ·rintro ⟨t,h,e⟩;exact ⟨t,h,e.symm⟩
def swL (W H T n:Int):List Int :=
 if gk W H T n=0 then trk W H T 3 (wx W H T n) (wy W H T n) T.toNat++trk W H T 3 (wx W H T n) (wy W H T n+1) T.toNat++trk W H T 4 (wx W H T n) (wy W H T n) T.toNat++trk W H T 4 (wx W H T n+1) (wy W H T n) T.toNat
 else if gk W H T n=1 then trk W H T (arC (wt W H T n).toNat) (arX (wx W H T n) (wt W H T n).toNat) (arY (wy W H T n) (wt W H T n).toNat) T.toNat
 else if gk W H T n=2 then trk W H T (brC W H (wx W H T n)) (brX W H (wx W H T n)) (brY W H (wx W H T n)) T.toNat
 else if gk W H T n=3 then hereTo W H T (wx W H T n) (wy W H T n) (wt W H T n) 4++hereTo W H T (wx W H T n+1) (wy W H T n) (wt W H T n) 4
 else hereTo W H T (wx W H T n) (wy W H T n) (wt W H T n) 4++hereTo W H T (wx W H T n) (wy W H T n+1) (wt W H T n) 4
theorem lo_hi_lt {m n:Int} (h:m<n):lo m n=m∧hi m n=n:=by unfold lo hi;rw [if_neg (by omega),if_pos (by omega)];exact ⟨rfl,rfl⟩
theorem lo_hi_gt {m n:Int} (h:n<m):lo m n=n∧hi m n=m:=by unfold lo hi;rw [if_pos (by omega),if_neg (by omega)];exact ⟨rfl,rfl⟩
theorem mem_loop1 {W H T:Int} {p:Int × Int}:∀ {k:Nat},p ∈ loop1 W H T k↔∃ j:Nat,j<k∧p ∈ nodeL W H T (j:Int)
 | 0=>by simp [loop1]
 | k+1=>by
  simp only [loop1,List.mem_append,mem_loop1 (k:=k)]
  constructor
  ·rintro (⟨j,h1,h2⟩|hp)
   ·exact ⟨j,by omega,h2⟩
   ·exact ⟨k,by omega,hp⟩
  ·rintro ⟨j,h1,h2⟩
   by_cases e:j=k
   ·subst e;exact .inr h2
   ·exact .inl ⟨j,by omega,h2⟩
theorem mem_rawL_node {W H T n:Int} (hN:isN W H T n) {p:Int × Int} (hp:p ∈ nodeL W H T n):p ∈ rawL W H T:=by
 unfold rawL
 refine List.mem_append.2 (.inl (mem_loop1.2 ⟨n.toNat,by have:=hN.2;omega,?_⟩))
 rw [Int.toNat_of_nonneg hN.2.1]
 exact hp
theorem mem_meetTo_trk {W H T n:Int} (h:okA W H T) (hN:isN W H T n) (hg:gk W H T n<3) {c:Nat} (hc:c=3∨c=4) {x y:Int} (hp:okP W H c x y) {m:Int} :
  m ∈ trk W H T c x y T.toNat↔(n,m) ∈ meetTo W H T n c x y T.toNat:=by
 rw [mem_trk,mem_meetTo]
 have hT:=h.2.2
 constructor
 ·rintro ⟨t,h1,rfl⟩
  obtain ⟨a1,a2,-⟩:=track_at h hc hp (t:=(t:Int)) ⟨by omega,by omega⟩
  have hlt:=gk_lt_of h hN a1 (by rw [a2];omega)
  exact ⟨t,h1,(track_E h hc ⟨by omega,by omega⟩).2 hp,by rw [(lo_hi_lt hlt).1,(lo_hi_lt hlt).2]⟩
 ·rintro ⟨t,h1,h2,h3⟩
  obtain ⟨a1,a2,-⟩:=track_at h hc hp (t:=(t:Int)) ⟨by omega,by omega⟩
  have hlt:=gk_lt_of h hN a1 (by rw [a2];omega)
  rw [(lo_hi_lt hlt).1,(lo_hi_lt hlt).2] at h3
  exact ⟨t,h1,by injection h3⟩
theorem trk_in {W H T:Int} (h:okA W H T) {c:Nat} (hc:c=3∨c=4) {x y:Int} (hp:okP W H c x y) {m:Int} (hm:m ∈ trk W H T c x y T.toNat):isN W H T m:=by
 obtain ⟨t,h1,rfl⟩:=mem_trk.1 hm
 have hT:=h.2.2
 exact (track_at h hc hp (t:=(t:Int)) ⟨by omega,by omega⟩).1
theorem swL_low {W H T n:Int} (hN:isN W H T n) (hg:gk W H T n<3) {m:Int}:(m ∈ swL W H T n↔(n,m) ∈ nodeL W H T n)∧(m ∈ swL W H T n->isN W H T m):=by
 have h:=hN.1
 have hh:=h
 unfold okA at hh
 obtain ⟨v1,v2,v3,v4,-⟩:=wh_yes hN
 obtain ⟨hk,hin,-⟩:=what_nodeAt hN
 obtain ⟨⟨b1,b2⟩,⟨b3,b4⟩,b5,b6⟩:=hin
 unfold swL nodeL
 rw [v1,v2,v3,v4]
 rcases lt5 hk with e|e|e|e|e <;> rw [e] at b2 b4 b6 <;> simp only [gw,gh,gd] at b2 b4 b6
 ·rw [if_pos e,if_pos (by rw [e];rfl)]
  have a0:=mem_meetTo_trk h hN hg (arC_34 0) (around_ok ⟨b1,b2⟩ ⟨b3,b4⟩ 0) (m:=m)
  have a1:=mem_meetTo_trk h hN hg (arC_34 1) (around_ok ⟨b1,b2⟩ ⟨b3,b4⟩ 1) (m:=m)
  have a2:=mem_meetTo_trk h hN hg (arC_34 2) (around_ok ⟨b1,b2⟩ ⟨b3,b4⟩ 2) (m:=m)
  have a3:=mem_meetTo_trk h hN hg (arC_34 3) (around_ok ⟨b1,b2⟩ ⟨b3,b4⟩ 3) (m:=m)
  have i0:=trk_in h (arC_34 0) (around_ok ⟨b1,b2⟩ ⟨b3,b4⟩ 0) (m:=m)
  have i1:=trk_in h (arC_34 1) (around_ok ⟨b1,b2⟩ ⟨b3,b4⟩ 1) (m:=m)
  have i2:=trk_in h (arC_34 2) (around_ok ⟨b1,b2⟩ ⟨b3,b4⟩ 2) (m:=m)
  have i3:=trk_in h (arC_34 3) (around_ok ⟨b1,b2⟩ ⟨b3,b4⟩ 3) (m:=m)
  simp only [arC,arX,arY] at a0 a1 a2 a3 i0 i1 i2 i3
  simp only [List.mem_append,arTo,arC,arX,arY,List.not_mem_nil,false_or]
  refine ⟨?_,?_⟩
  ·rw [a0,a1,a2,a3]
   constructor
   ·rintro (((h|h)|h)|h)
    ·exact .inl (.inl (.inl h))
    ·exact .inl (.inr h)
    ·exact .inr h
    ·exact .inl (.inl (.inr h))
   ·rintro (((h|h)|h)|h)
    ·exact .inl (.inl (.inl h))
    ·exact .inr h
    ·exact .inl (.inl (.inr h))
    ·exact .inl (.inr h)
  ·rintro (((h|h)|h)|h)
   ·exact i0 h
   ·exact i2 h
   ·exact i3 h
   ·exact i1 h
 ·rw [if_neg (by omega),if_pos e,if_neg (by omega),if_pos (by rw [e];rfl)]
  exact ⟨mem_meetTo_trk h hN hg (arC_34 _) (around_ok ⟨b1,b2⟩ ⟨b3,b4⟩ _),trk_in h (arC_34 _) (around_ok ⟨b1,b2⟩ ⟨b3,b4⟩ _)⟩
 ·rw [if_neg (by omega),if_neg (by omega),if_pos e,if_neg (by omega),if_neg (by omega),if_pos (by rw [e];rfl)]
  exact ⟨mem_meetTo_trk h hN hg (brC_34 _ _ _) (border_ok (by omega) (by omega) ⟨b1,b2⟩),trk_in h (brC_34 _ _ _) (border_ok (by omega) (by omega) ⟨b1,b2⟩)⟩
 ·omega
 ·omega
theorem corner_two {W H T:Int} (h:okA W H T) {x y t:Int} (hx:0<=x∧x<=W) (hy:0<=y∧y<=H) (ht:0<=t∧t<T) {m n:Int} (hm:m ∈ hereTo W H T x y t 4) (hn:n ∈ hereTo W H T x y t 4) (hlt:m<n):(m,n) ∈ rawL W H T:=by
 obtain ⟨i,h1,oi,rfl⟩:=(mem_hereTo h ht).1 hm
 obtain ⟨j,h2,oj,rfl⟩:=(mem_hereTo h ht).1 hn
 have hij:i<j:=by
  rcases Nat.lt_trichotomy i j with l|l|l
  ·exact l
  ·subst l;omega
  ·have:=co_lt h ht l h1 oj oi;omega
 have:=mem_rawL_corner h (x:=x.toNat) (y:=y.toNat) (t:=t.toNat) (by omega) (by omega) (by omega) (p:=(co W H T x y t i,co W H T x y t j))
 rw [Int.toNat_of_nonneg hx.1,Int.toNat_of_nonneg hy.1,Int.toNat_of_nonneg ht.1] at this
 exact this ((mem_cornerTo h ht (by omega)).2 ⟨i,j,hij,h2,oi,oj,rfl⟩)
theorem here_in {W H T:Int} (h:okA W H T) {x y t:Int} (ht:0<=t∧t<T) {m:Int} (hm:m ∈ hereTo W H T x y t 4):isN W H T m:=by
 obtain ⟨i,h1,oi,rfl⟩:=(mem_hereTo h ht).1 hm
 exact (co_at h ht oi).1
theorem swL_high {W H T n:Int} (hN:isN W H T n) (hg:¬ gk W H T n<3):∃ x y x' y':Int,(0<=x∧x<=W)∧(0<=y∧y<=H)∧(0<=x'∧x'<=W)∧(0<=y'∧y'<=H)∧(0<=wt W H T n∧wt W H T n<T) ∧
  n ∈ hereTo W H T x y (wt W H T n) 4∧n ∈ hereTo W H T x' y' (wt W H T n) 4∧swL W H T n=hereTo W H T x y (wt W H T n) 4++hereTo W H T x' y' (wt W H T n) 4:=by
 have h:=hN.1
 have hh:=h
 unfold okA at hh
 obtain ⟨hk,hin,hn⟩:=what_nodeAt hN
 have hin':=hin
 obtain ⟨⟨b1,b2⟩,⟨b3,b4⟩,b5,b6⟩:=hin
 have e2:nodeN W H T (gk W H T n) (wx W H T n) (wy W H T n) (wt W H T n)=n:=by unfold nodeN;rw [if_pos ⟨h,hin'⟩];exact hn
 unfold swL
 rcases lt5 hk with e|e|e|e|e
 ·omega
 ·omega
 ·omega
 ·rw [e] at b2 b4 b6 e2
  simp only [gw,gh,gd] at b2 b4 b6
  rw [if_neg (by omega),if_neg (by omega),if_neg (by omega),if_pos e]
  refine ⟨_,_,_,_,⟨b1,by omega⟩,⟨b3,by omega⟩,⟨by omega,by omega⟩,⟨b3,by omega⟩,⟨b5,b6⟩,?_,?_,rfl⟩
  ·exact (mem_hereTo h ⟨b5,b6⟩).2 ⟨1,by omega,ok1.2 ⟨⟨b1,b2⟩,b3,b4⟩,by rw [co1];exact e2.symm⟩
  ·exact (mem_hereTo h ⟨b5,b6⟩).2 ⟨0,by omega,ok0.2 ⟨⟨by omega,by omega⟩,b3,b4⟩,by rw [co0,show wx W H T n+1-1=wx W H T n by omega];exact e2.symm⟩
 ·rw [e] at b2 b4 b6 e2
  simp only [gw,gh,gd] at b2 b4 b6
  rw [if_neg (by omega),if_neg (by omega),if_neg (by omega),if_neg (by omega)]
  refine ⟨_,_,_,_,⟨b1,by omega⟩,⟨b3,by omega⟩,⟨by omega,by omega⟩,⟨by omega,by omega⟩,⟨b5,b6⟩,?_,?_,rfl⟩
  ·exact (mem_hereTo h ⟨b5,b6⟩).2 ⟨3,by omega,ok3.2 ⟨⟨b1,b2⟩,b3,b4⟩,by rw [co3];exact e2.symm⟩
  ·exact (mem_hereTo h ⟨b5,b6⟩).2 ⟨2,by omega,ok2.2 ⟨⟨b1,b2⟩,by omega,by omega⟩,by rw [co2,show wy W H T n+1-1=wy W H T n by omega];exact e2.symm⟩
theorem swL_mem {W H T n m:Int} (hN:isN W H T n) (hm:m ∈ swL W H T n):isN W H T m∧(m≠n->(lo n m,hi n m) ∈ rawL W H T):=by
 have h:=hN.1
 by_cases hg:gk W H T n<3
 ·obtain ⟨h1,h2⟩:=swL_low hN hg (m:=m)
  refine ⟨h2 hm,fun _=>?_⟩
  have h3:=h1.1 hm
  obtain ⟨s1,s2⟩:=nodeL_side hN h3
  have hlt:=s1.2.2.1
  rw [(lo_hi_lt hlt).1,(lo_hi_lt hlt).2]
  exact mem_rawL_node hN h3
 ·obtain ⟨x,y,x',y',hx,hy,hx',hy',ht,n1,n2,e⟩:=swL_high hN hg
  rw [e,List.mem_append] at hm
  have key:∀ {x y:Int},(0<=x∧x<=W)->(0<=y∧y<=H)->n ∈ hereTo W H T x y (wt W H T n) 4->m ∈ hereTo W H T x y (wt W H T n) 4->isN W H T m∧(m≠n->(lo n m,hi n m) ∈ rawL W H T):=by
   intro x y hx hy hn hm
   refine ⟨here_in h ht hm,fun hne=>?_⟩
   rcases Int.lt_or_gt_of_ne hne with l|l
   ·rw [(lo_hi_gt l).1,(lo_hi_gt l).2];exact corner_two h hx hy ht hm hn l
   ·rw [(lo_hi_lt l).1,(lo_hi_lt l).2];exact corner_two h hx hy ht hn hm l
  rcases hm with hm|hm
  ·exact key hx hy n1 hm
  ·exact key hx' hy' n2 hm
theorem mem_tTo {W H T x y:Int} {p:Int × Int}:∀ {k:Nat},p ∈ tTo W H T x y k->∃ t:Nat,t<k∧p ∈ cornerTo W H T x y (t:Int) 4
 | 0,h=>by simp [tTo] at h
 | k+1,h=>by
  simp only [tTo,List.mem_append] at h
  rcases h with h|h
  ·obtain ⟨t,h1,h2⟩:=mem_tTo h;exact ⟨t,by omega,h2⟩
  ·exact ⟨k,by omega,h⟩
theorem mem_yTo {W H T x:Int} {p:Int × Int}:∀ {k:Nat},p ∈ yTo W H T x k->∃ t:Nat,t<k∧p ∈ tTo W H T x (t:Int) T.toNat
 | 0,h=>by simp [yTo] at h
 | k+1,h=>by
  simp only [yTo,List.mem_append] at h
  rcases h with h|h
  ·obtain ⟨t,h1,h2⟩:=mem_yTo h;exact ⟨t,by omega,h2⟩
  ·exact ⟨k,by omega,h⟩
theorem mem_xTo {W H T:Int} {p:Int × Int}:∀ {k:Nat},p ∈ xTo W H T k->∃ t:Nat,t<k∧p ∈ yTo W H T (t:Int) (H+1).toNat
 | 0,h=>by simp [xTo] at h
 | k+1,h=>by
  simp only [xTo,List.mem_append] at h
  rcases h with h|h
  ·obtain ⟨t,h1,h2⟩:=mem_xTo h;exact ⟨t,by omega,h2⟩
  ·exact ⟨k,by omega,h⟩
theorem here_sw {W H T:Int} (h:okA W H T) {x y t:Int} (ht:0<=t∧t<T) {i:Nat} (hi:i<4) (oi:coOk W H x y i) {m:Int} (hm:m ∈ hereTo W H T x y t 4):m ∈ swL W H T (co W H T x y t i):=by
 obtain ⟨a1,a2,a3,a4,a5,-⟩:=co_at h ht oi
 unfold swL
 rw [a2,a3,a4,a5]
 rcases lt4 hi with rfl|rfl|rfl|rfl
 ·simp only [coC,coX,coY]
  rw [if_neg (by omega),if_neg (by omega),if_neg (by omega),if_pos (by trivial),show x-1+1=x by omega]
  exact List.mem_append.2 (.inr hm)
 ·simp only [coC,coX,coY]
  rw [if_neg (by omega),if_neg (by omega),if_neg (by omega),if_pos (by trivial)]
  exact List.mem_append.2 (.inl hm)
 ·simp only [coC,coX,coY]
  rw [if_neg (by omega),if_neg (by omega),if_neg (by omega),if_neg (by omega),show y-1+1=y by omega]
  exact List.mem_append.2 (.inr hm)
 ·simp only [coC,coX,coY]
  rw [if_neg (by omega),if_neg (by omega),if_neg (by omega),if_neg (by omega)]
  exact List.mem_append.2 (.inl hm)
theorem rawL_sw {W H T:Int} (h:okA W H T) {p:Int × Int} (hp:p ∈ rawL W H T):isN W H T p.1∧p.1<p.2∧p.2 ∈ swL W H T p.1:=by
 have hnb:=nodes_bd h
 unfold rawL at hp
 rcases List.mem_append.1 hp with hp|hp
 ·obtain ⟨j,hj,hm⟩:=mem_loop1.1 hp
  have hN:isN W H T (j:Int):=⟨h,by omega,by omega⟩
  obtain ⟨s1,s2⟩:=nodeL_side hN hm
  have hp2:p=((j:Int),p.2):=by rw [<- s2]
  refine ⟨by rw [s2];exact hN,s1.2.2.1,?_⟩
  rw [s2]
  refine (swL_low hN (by have:=s1.2.1;rw [s2] at this;exact this)).1.2 ?_
  rw [<- hp2];exact hm
 ·obtain ⟨x,hx,hp⟩:=mem_xTo hp
  obtain ⟨y,hy,hp⟩:=mem_yTo hp
  obtain ⟨t,ht,hp⟩:=mem_tTo hp
  have ht':(0:Int)<=(t:Int)∧(t:Int)<T:=⟨by omega,by omega⟩
  obtain ⟨i,j,h1,h2,oi,oj,rfl⟩:=(mem_cornerTo h ht' (by omega)).1 hp
  exact ⟨(co_at h ht' oi).1,co_lt h ht' h1 h2 oi oj,here_sw h ht' (by omega) oi ((mem_hereTo h ht').2 ⟨j,h2,oj,rfl⟩)⟩
def putL:List Int->Int->List Int
 | [],n=>[n]
 | a::l,n=>if a<n then a::putL l n else if a=n then a::l else n::a::l
theorem mem_putL {m n:Int}:∀ {l:List Int},m ∈ putL l n↔m ∈ l∨m=n
 | []=>by simp [putL]
 | a::l=>by
  simp only [putL]
  split
  ·simp only [List.mem_cons,mem_putL (l:=l),or_assoc]
  ·split
   ·rename_i e;subst e;simp only [List.mem_cons];exact ⟨fun h=>.inl h,fun h=>by rcases h with h|h <;> simp [h]⟩
   ·simp only [List.mem_cons]
    exact ⟨fun h=>by rcases h with h|h|h <;> simp [h],fun h=>by rcases h with (h|h)|h <;> simp [h]⟩
theorem putL_sorted {n:Int}:∀ {l:List Int},l.Pairwise (·<·)->(putL l n).Pairwise (·<·)
 | [],_=>by simp [putL]
 | a::l,h=>by
  have h':=List.pairwise_cons.1 h
  simp only [putL]
  split
  ·refine List.pairwise_cons.2 ⟨fun b hb=>?_,putL_sorted h'.2⟩
   rcases mem_putL.1 hb with hb|hb
   ·exact h'.1 b hb
   ·omega
  ·split
   ·exact h
   ·refine List.pairwise_cons.2 ⟨fun b hb=>?_,h⟩
    rcases List.mem_cons.1 hb with hb|hb
    ·omega
    ·have:=h'.1 b hb;omega
theorem putL_there {n:Int}:∀ {l:List Int} {k:Nat},(∀ j,j<k->l.getD j 0<n)->k<l.length->l.getD k 0=n->putL l n=l
 | [],k,_,hk,_=>by simp at hk
 | a::l,0,_,_,h=>by simp at h;subst h;simp [putL]
 | a::l,k+1,h,hk,he=>by
  have h0:=h 0 (by omega)
  simp at h0
  simp only [putL]
  rw [if_pos h0,putL_there (l:=l) (k:=k) (fun j hj=>by have:=h (j+1) (by omega);simpa using this) (by simpa using hk) (by simpa using he)]
theorem putL_new {n:Int}:∀ {l:List Int} {k:Nat},(∀ j,j<k->l.getD j 0<n)->k<=l.length->(k<l.length->n<l.getD k 0)->putL l n=l.take k++[n]++l.drop k
 | [],k,_,hk,_=>by simp at hk;subst hk;simp [putL]
 | a::l,0,_,_,h=>by
  have:=h (by simp)
  simp at this
  simp only [putL]
  rw [if_neg (by omega),if_neg (by omega)]
  simp
 | a::l,k+1,h,hk,he=>by
  have h0:=h 0 (by omega)
  simp at h0
  simp only [putL]
  rw [if_pos h0,putL_new (l:=l) (k:=k) (fun j hj=>by have:=h (j+1) (by omega);simpa using this) (by simpa using hk) (fun hl=>by have:=he (by simpa using hl);simpa using this)]
  simp
def upd (M:Nat->List Int) (n:Nat) (l:List Int):Nat->List Int:=fun i=>if i=n then l else M i
def nstep (n:Nat) (M:Nat->List Int) (k:Int):Nat->List Int:=if k=(n:Int) then M else upd (upd M n (putL (M n) k)) k.toNat (putL (M k.toNat) (n:Int))
def nIn (n:Nat) (M:Nat->List Int) (l:List Int):Nat->List Int:=l.foldl (nstep n) M
def nearTo (W H T:Int):Nat->Nat->List Int
 | 0=>fun _=>[]
 | n+1=>nIn n (nearTo W H T n) (swL W H T (n:Int))
theorem nIn_snoc (n:Nat) (M:Nat->List Int) (l:List Int) (k:Int):nIn n M (l++[k])=nstep n (nIn n M l) k:=by simp [nIn]
theorem mem_nstep {n:Nat} {M:Nat->List Int} {k:Int} (hk:0<=k) {i:Nat} {m:Int}:m ∈ nstep n M k i↔m ∈ M i∨(k≠(n:Int)∧((i=n∧m=k)∨((i:Int)=k∧m=(n:Int)))):=by
 unfold nstep
 by_cases e:k=(n:Int)
 ·rw [if_pos e];simp [e]
 ·rw [if_neg e]
  have hne:k.toNat≠n:=by omega
  unfold upd
  by_cases e1:i=k.toNat
  ·rw [if_pos e1,mem_putL,e1]
   have:(k.toNat:Int)=k:=by omega
   simp [e,hne,this]
  ·rw [if_neg e1]
   have:(i:Int)≠k:=by omega
   by_cases e2:i=n
   ·subst e2;rw [if_pos rfl,mem_putL];simp [e,this]
   ·rw [if_neg e2];simp [e2,this]
theorem mem_nIn {n:Nat}:∀ {l:List Int} {M:Nat->List Int},(∀ k ∈ l,0<=k)->∀ {i:Nat} {m:Int},m ∈ nIn n M l i↔m ∈ M i∨∃ k ∈ l,k≠(n:Int)∧((i=n∧m=k)∨((i:Int)=k∧m=(n:Int)))
 | [],M,_,i,m=>by simp [nIn]
 | k::l,M,h,i,m=>by
  have ih:=mem_nIn (n:=n) (l:=l) (M:=nstep n M k) (fun k hk=>h k (by simp [hk])) (i:=i) (m:=m)
  have e:nIn n M (k::l)=nIn n (nstep n M k) l:=rfl
  rw [e,ih,mem_nstep (h k (by simp))]
  simp only [List.mem_cons,exists_eq_or_imp,or_assoc]
theorem nstep_sorted {n:Nat} {M:Nat->List Int} (h:∀ i,(M i).Pairwise (·<·)) (k:Int) (i:Nat):(nstep n M k i).Pairwise (·<·):=by
 unfold nstep upd
 split
 ·exact h i
 ·simp only
  split
  ·exact putL_sorted (h _)
  ·split
   ·exact putL_sorted (h _)
   ·exact h i
theorem nIn_sorted {n:Nat}:∀ {l:List Int} {M:Nat->List Int},(∀ i,(M i).Pairwise (·<·))->∀ i,(nIn n M l i).Pairwise (·<·)
 | [],M,h,i=>h i
 | k::l,M,h,i=>nIn_sorted (l:=l) (M:=nstep n M k) (nstep_sorted h k) i
theorem nearTo_sorted (W H T:Int):∀ (n i:Nat),(nearTo W H T n i).Pairwise (·<·)
 | 0,i=>by simp [nearTo]
 | n+1,i=>nIn_sorted (nearTo_sorted W H T n) i
theorem mem_nearTo {W H T:Int} (h:okA W H T):∀ {n:Nat},(n:Int)<=nodesI W H T->∀ {i:Nat} {m:Int},m ∈ nearTo W H T n i↔∃ j:Nat,j<n∧∃ k ∈ swL W H T (j:Int),k≠(j:Int)∧((i=j∧m=k)∨((i:Int)=k∧m=(j:Int)))
 | 0,_,i,m=>by simp [nearTo]
 | n+1,hn,i,m=>by
  have hN:isN W H T (n:Int):=⟨h,by omega,by omega⟩
  simp only [nearTo]
  rw [mem_nIn (fun k hk=>(swL_mem hN hk).1.2.1),mem_nearTo h (n:=n) (by omega)]
  constructor
  ·rintro (⟨j,h1,h2⟩|h2)
   ·exact ⟨j,by omega,h2⟩
   ·exact ⟨n,by omega,h2⟩
  ·rintro ⟨j,h1,h2⟩
   by_cases e:j=n
   ·subst e;exact .inr h2
   ·exact .inl ⟨j,by omega,h2⟩
theorem near_iff {W H T:Int} (h:okA W H T) {N:Nat} (hN:nodesI W H T=(N:Int)) {i:Nat} (hi:i<N) {m:Int}:m ∈ nearTo W H T N i↔(((i:Int),m) ∈ rawL W H T∨(m,(i:Int)) ∈ rawL W H T):=by
 rw [mem_nearTo h (by omega)]
 constructor
 ·rintro ⟨j,h1,k,hk,hne,h2⟩
  have hj:isN W H T (j:Int):=⟨h,by omega,by omega⟩
  obtain ⟨a1,a2⟩:=swL_mem hj hk
  have a3:=a2 hne
  rcases h2 with ⟨rfl,rfl⟩|⟨e,rfl⟩
  ·rcases Int.lt_or_gt_of_ne hne with l|l
   ·rw [(lo_hi_gt l).1,(lo_hi_gt l).2] at a3;exact .inr a3
   ·rw [(lo_hi_lt l).1,(lo_hi_lt l).2] at a3;exact .inl a3
  ·rw [<- e] at a3 hne
   rcases Int.lt_or_gt_of_ne hne with l|l
   ·rw [(lo_hi_gt l).1,(lo_hi_gt l).2] at a3;exact .inl a3
   ·rw [(lo_hi_lt l).1,(lo_hi_lt l).2] at a3;exact .inr a3
 ·rintro (hp|hp)
  ·obtain ⟨a1,a2,a3⟩:=rawL_sw h hp
   exact ⟨i,hi,m,a3,by simp at a2;omega,.inl ⟨rfl,rfl⟩⟩
  ·obtain ⟨a1,a2,a3⟩:=rawL_sw h hp
   simp only at a1 a2 a3
   have h0:=a1.2
   refine ⟨m.toNat,by omega,(i:Int),?_,by omega,.inr ⟨rfl,by omega⟩⟩
   rw [Int.toNat_of_nonneg h0.1];exact a3
def upL (M:List Int) (n:Nat) (k:Nat):List (Int × Int):=((M.take k).filter fun m=>decide ((n:Int)<m)).map fun m=>((n:Int),m)
def pairsTo (M:Nat->List Int):Nat->List (Int × Int)
 | 0=>[]
 | n+1=>pairsTo M n++upL (M n) n (M n).length
theorem upL_zero (M:List Int) (n:Nat):upL M n 0=[]:=by simp [upL]
theorem upL_succ {M:List Int} {n k:Nat} (hk:k<M.length):upL M n (k+1)=upL M n k++(if (n:Int)<M.getD k 0 then [((n:Int),M.getD k 0)] else []):=by
 unfold upL
 rw [List.take_succ_eq_append_getElem hk,List.filter_append,List.map_append]
 congr 1
 simp only [List.getD_eq_getElem?_getD,List.getElem?_eq_getElem hk,Option.getD_some,List.filter_cons,List.filter_nil]
 by_cases e:(n:Int)<M[k] <;> simp [e]
theorem mem_upL {M:List Int} {n:Nat} {p:Int × Int}:p ∈ upL M n M.length↔p.1=(n:Int)∧p.1<p.2∧p.2 ∈ M:=by
 unfold upL
 simp only [List.take_length,List.mem_map,List.mem_filter,decide_eq_true_eq]
 constructor
 ·rintro ⟨m,⟨h1,h2⟩,rfl⟩;exact ⟨rfl,h2,h1⟩
 ·rintro ⟨h1,h2,h3⟩;exact ⟨p.2,⟨h3,by omega⟩,by rw [<- h1]⟩
theorem mem_pairsTo {M:Nat->List Int} {p:Int × Int}:∀ {n:Nat},p ∈ pairsTo M n↔∃ j:Nat,j<n∧p.1=(j:Int)∧p.1<p.2∧p.2 ∈ M j
 | 0=>by simp [pairsTo]
 | n+1=>by
  simp only [pairsTo,List.mem_append,mem_pairsTo (n:=n),mem_upL]
  constructor
  ·rintro (⟨j,h1,h2⟩|h2)
   ·exact ⟨j,by omega,h2⟩
   ·exact ⟨n,by omega,h2⟩
  ·rintro ⟨j,h1,h2⟩
   by_cases e:j=n
   ·subst e;exact .inr h2
   ·exact .inl ⟨j,by omega,h2⟩
end Go.Proofs.YtmkiphadkmodnaaGreat
