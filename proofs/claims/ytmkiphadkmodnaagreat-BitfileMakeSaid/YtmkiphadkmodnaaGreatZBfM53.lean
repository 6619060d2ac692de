/- BfM, 53 -/
import Derived.Test.YtmkiphadkmodnaaGreatZBfM50
import Derived.Test.YtmkiphadkmodnaaGreatZBfM25
import Derived.Test.YtmkiphadkmodnaaGreatZBfM52
import Derived.Test.YtmkiphadkmodnaaGreatZBfM48
import Derived.Test.YtmkiphadkmodnaaGreatZBfM49
import Derived.Test.YtmkiphadkmodnaaGreatZBfM0
set_option linter.all false
set_option maxRecDepth 100000
set_option maxHeartbeats 8000000
namespace Go.Proofs.YtmkiphadkmodnaaGreat
open Go.ChangeShapes Go.WideShapes Go.ChangeAt Go.RowKit Go.Joins
theorem arTo_len8 {W H T n x y:Int} (hT:T<=8) (k:Nat):(arTo W H T n x y k).length<=8*k:=by
 induction k with
 | zero=>simp [arTo]
 | succ k ih =>
  have:=meetTo_len W H T n (arC k) (arX x k) (arY y k) T.toNat
  simp only [arTo,List.length_append];omega
theorem nodeL_len8 {W H T n:Int} (hT:T<=8):(nodeL W H T n).length<=32:=by
 unfold nodeL
 split
 ·have:=arTo_len8 (W:=W) (H:=H) (n:=n) (x:=whX W H T n) (y:=whY W H T n) hT 4
  omega
 ·split
  ·have:=meetTo_len W H T n (arC (whT W H T n).toNat) (arX (whX W H T n) (whT W H T n).toNat) (arY (whY W H T n) (whT W H T n).toNat) T.toNat
   omega
  ·split
   ·have:=meetTo_len W H T n (brC W H (whX W H T n)) (brX W H (whX W H T n)) (brY W H (whX W H T n)) T.toNat
    omega
   ·simp
theorem loop1_len8 {W H T:Int} (hT:T<=8) (k:Nat):(loop1 W H T k).length<=32*k:=by
 induction k with
 | zero=>simp [loop1]
 | succ k ih =>
  have:=nodeL_len8 (W:=W) (H:=H) (n:=(k:Int)) hT
  simp only [loop1,List.length_append];omega
theorem edges_few {W H T:Int} (h:okA W H T) (hW:W<=5) (hH:H<=5) (hT:T<=8):(edgesL W H T).length<=50000∧(W*H).toNat<=1000:=by
 have hh:=h
 unfold okA at hh
 have w1:W*H<=5*5:=Int.mul_le_mul hW hH (by omega) (by omega)
 have w2:W*(H+1)<=5*6:=Int.mul_le_mul hW (by omega) (by omega) (by omega)
 have w3:(W+1)*H<=6*5:=Int.mul_le_mul (by omega) hH (by omega) (by omega)
 have w4:W*(H+1)*T<=30*8:=Int.mul_le_mul w2 hT (by omega) (by omega)
 have w5:(W+1)*H*T<=30*8:=Int.mul_le_mul w3 hT (by omega) (by omega)
 have hn:nodesI W H T<=625:=by
  unfold nodesI
  simp only [gat,gmany,gw,gh,gd]
  omega
 have a:=loop1_len8 (W:=W) (H:=H) (T:=T) hT (nodesI W H T).toNat
 have b:=xTo_len (W:=W) (H:=H) (T:=T) hh.2.1.2 hh.2.2.2 (W+1).toNat
 refine ⟨?_,by omega⟩
 unfold edgesL
 rw [sortP_length]
 unfold rawL
 rw [List.length_append]
 omega
structure Mk3 (w:World) (W H T pI:Int) (AB AO SB SI SO:Option Addr) (pb cB po cO nb dB ni dI no dO:Nat) (wx:World):Prop where
 a:Blk wx w.heap.size 23 #[.int .i64 W,.int .i64 H,.int .i64 T]
 p:Blk wx (w.heap.size+1) 27 #[.int .i64 pI,.slice AB pb cB,.slice AO po cO]
 s:Blk wx (w.heap.size+1+1) 29 #[.slice SB nb dB,.slice SI ni dI,.slice SO no dO]
 q:Below w.heap.size w wx
section
variable {w : World} {W H T pI : Int} {AB AO SB SI SO : Option Addr} {pb cB po cO nb dB ni dI no dO : Nat} {wx wy : World}
theorem Mk3.keep (h:Mk3 w W H T pI AB AO SB SI SO pb cB po cO nb dB ni dI no dO wx) (hb:Below wx.heap.size wx wy):Mk3 w W H T pI AB AO SB SI SO pb cB po cO nb dB ni dI no dO wy :=
 ⟨h.a.keep hb,h.p.keep hb,h.s.keep hb,bt_ h.q hb⟩
theorem Mk3.start (w:World) (W H T pI:Int) (AB AO SB SI SO:Option Addr) (pb cB po cO nb dB ni dI no dO:Nat):Mk3 w W H T pI AB AO SB SI SO pb cB po cO nb dB ni dI no dO (((w.alloc (.cells #[.int .i64 W,.int .i64 H,.int .i64 T] 23)).alloc (.cells #[.int .i64 pI,.slice AB pb cB,.slice AO po cO] 27)).alloc (.cells #[.slice SB nb dB,.slice SI ni dI,.slice SO no dO] 29)):=by
 refine ⟨((Blk.made w _ _).alloc _).alloc _,(blk_made1 w _ _ _).alloc _,?_,bt_ (bt_ (bn_ w _) (bn_ _ _)) (bn_ _ _)⟩
 have h:=Blk.made ((w.alloc (.cells #[.int .i64 W,.int .i64 H,.int .i64 T] 23)).alloc (.cells #[.int .i64 pI,.slice AB pb cB,.slice AO po cO] 27)) 29 #[.slice SB nb dB,.slice SI ni dI,.slice SO no dO]
 rw [World.size_alloc,World.size_alloc] at h
 exact h
end
def few29P (I:Int) (pb po:Nat):Prop:=I<=64∧(pb:Int)<=64∧(po:Int)<=64
instance (I:Int) (pb po:Nat):Decidable (few29P I pb po):=by unfold few29P;infer_instance
theorem few29_any (I:Int) (AB AO:Option Addr) (pb cB po cO:Nat) (w:World) :
  Calls Tryz.prog 16 #[.agg #[.int .i64 I,.slice AB pb cB,.slice AO po cO]] w fun e w'=>e=.returned (.bool (decide (few29P I pb po)))∧Below w.heap.size w w':=by
 have B1:=hd_ (bn_ w (.cells #[.int .i64 I,.slice AB pb cB,.slice AO po cO] 27))
 obtain ⟨r,hr⟩:∃ r,decide (few29P I pb po)=r:=⟨_,rfl⟩
 have HR:=hd_ hr
 rw [hr]
 clear hr
 by_cases h1:I<=64
 ·by_cases h2:(pb:Int)<=64
  ·by_cases h3:(po:Int)<=64
   ·have hz:=hd_ (show r=true by rw [<- HR.out];exact decide_eq_true ⟨h1,h2,h3⟩)
    go_enter Tryz.func16,Tryz.ntmps16
    go_wp2_with fail
    go_ret
    exact ⟨by rw [hz.out];rfl,B1.out⟩
   ·have hz:=hd_ (show r=false by rw [<- HR.out];exact decide_eq_false (fun h=>h3 h.2.2))
    have d3:decide ((po:Int)<=64)=false:=decide_eq_false h3
    go_enter Tryz.func16,Tryz.ntmps16
    go_wp2_with fail
    go_ret
    exact ⟨by rw [hz.out];rfl,B1.out⟩
  ·have hz:=hd_ (show r=false by rw [<- HR.out];exact decide_eq_false (fun h=>h2 h.2.1))
   have d2:decide ((pb:Int)<=64)=false:=decide_eq_false h2
   go_enter Tryz.func16,Tryz.ntmps16
   go_wp2_with fail
   go_ret
   exact ⟨by rw [hz.out];rfl,B1.out⟩
 ·have hz:=hd_ (show r=false by rw [<- HR.out];exact decide_eq_false (fun h=>h1 h.1))
  have d1:decide (I<=64)=false:=decide_eq_false h1
  go_enter Tryz.func16,Tryz.ntmps16
  go_wp2_with fail
  go_ret
  exact ⟨by rw [hz.out];rfl,B1.out⟩
def fewOP (W H T I:Int) (pb po:Nat):Prop:=(W<=5∧H<=5∧T<=8)∧few29P I pb po
instance (W H T I:Int) (pb po:Nat):Decidable (fewOP W H T I pb po):=by unfold fewOP;infer_instance
theorem fewOf_any (W H T I:Int) (AB AO:Option Addr) (pb cB po cO:Nat) (w:World) :
  Calls Tryz.prog 5 #[.agg #[.int .i64 W,.int .i64 H,.int .i64 T],.agg #[.int .i64 I,.slice AB pb cB,.slice AO po cO]] w fun e w'=>e=.returned (.bool (decide (fewOP W H T I pb po)))∧Below w.heap.size w w':=by
 have B1:=hd_ (bt_ (bn_ w (.cells #[.int .i64 W,.int .i64 H,.int .i64 T] 23)) (bn_ _ (.cells #[.int .i64 I,.slice AB pb cB,.slice AO po cO] 27)))
 have HC:=hd_ (few29_any I AB AO pb cB po cO)
 obtain ⟨q,hq⟩:∃ q,decide (few29P I pb po)=q:=⟨_,rfl⟩
 have HQ:=hd_ hq
 rw [hq] at HC
 obtain ⟨r,hr⟩:∃ r,decide (fewOP W H T I pb po)=r:=⟨_,rfl⟩
 have HR:=hd_ hr
 rw [hr]
 clear hr hq
 by_cases h1:W<=5
 ·by_cases h2:H<=5
  ·by_cases h3:T<=8
   ·have hz:=hd_ (show r=q by rw [<- HR.out,<- HQ.out];exact decide_eq_decide.2 ⟨fun h=>h.2,fun h=>⟨⟨h1,h2,h3⟩,h⟩⟩)
    go_enter Tryz.func5,Tryz.ntmps5
    go_wp2_with fail
    refine (HC.out _).mono ?_
    rintro e w1 ⟨rfl,hb⟩
    have B2:=hd_ (bt_ B1.out hb)
    clear hb
    go_wp2_with fail
    go_ret
    exact ⟨by rw [hz.out];rfl,B2.out⟩
   ·have hz:=hd_ (show r=false by rw [<- HR.out];exact decide_eq_false (fun h=>h3 h.1.2.2))
    have d3:decide (T<=8)=false:=decide_eq_false h3
    go_enter Tryz.func5,Tryz.ntmps5
    go_wp2_with fail
    go_ret
    exact ⟨by rw [hz.out];rfl,B1.out⟩
  ·have hz:=hd_ (show r=false by rw [<- HR.out];exact decide_eq_false (fun h=>h2 h.1.2.1))
   have d2:decide (H<=5)=false:=decide_eq_false h2
   go_enter Tryz.func5,Tryz.ntmps5
   go_wp2_with fail
   go_ret
   exact ⟨by rw [hz.out];rfl,B1.out⟩
 ·have hz:=hd_ (show r=false by rw [<- HR.out];exact decide_eq_false (fun h=>h1 h.1.1))
  have d1:decide (W<=5)=false:=decide_eq_false h1
  go_enter Tryz.func5,Tryz.ntmps5
  go_wp2_with fail
  go_ret
  exact ⟨by rw [hz.out];rfl,B1.out⟩
def fewWP (ls:List SL):Prop:=(∀ l ∈ ls,l.2.2.length<=500)∧ls.length<=100
instance (ls:List SL):Decidable (fewWP ls):=by unfold fewWP;infer_instance
theorem fewWays_any (B:Option Addr) (cB:Nat) (ls:List SL) (w:World) (hls:SLs w B cB ls) (hl:ls.length<=maxLen) :
  Calls Tryz.prog 6 #[.slice B ls.length cB] w fun e w'=>e=.returned (.bool (decide (fewWP ls)))∧Below w.heap.size w w':=by
 have HLS:=hd_ hls
 obtain ⟨m,hm⟩:∃ m,ls.length=m:=⟨_,rfl⟩
 have HM:=hd_ hm
 obtain ⟨r,hr⟩:∃ r,decide (fewWP ls)=r:=⟨_,rfl⟩
 have HR:=hd_ hr
 rw [hr,hm]
 rw [hm] at hl
 have hl8:m<=9223372036854775807:=by unfold maxLen at hl;omega
 clear hr hm hls hl
 go_enter Tryz.func6,Tryz.ntmps6
 go_wp2_with fail
 go_loopw [3] (fun v3 wx=>∃ i:Nat,i<=m∧v3=.int .i64 (i:Int)∧Below w.heap.size w wx∧Hid (∀ l ∈ ls.take i,l.2.2.length<=500)) (fun v3 _=>m-(intOf v3).toNat)
 case atStart=>exact ⟨0,by omega,rfl,br_,hd_ (by simp)⟩
 case round =>
  obtain ⟨i,hi,rfl,hb,HO⟩:=hrel
  have BW:=hd_ hb
  clear hb
  by_cases hin:i<m
  ·have hin':(i:Int)<(m:Int):=by omega
   have hib:i<ls.length:=by rw [HM.out];exact hin
   obtain ⟨ba,hBA,hbab,b0⟩:=(HLS.out.later BW.out).at_ hib
   have HBAD:=hd_ (show ¬ ls[i].2.2.length<=500->r=false from fun h=>by rw [<- HR.out];exact decide_eq_false (fun hf=>h (hf.1 _ (List.getElem_mem hib))))
   have HGO:=hd_ (show ls[i].2.2.length<=500->∀ l ∈ ls.take (i+1),l.2.2.length<=500 from fun h l hl=>by
    rw [List.take_succ_eq_append_getElem hib] at hl
    rcases List.mem_append.1 hl with hl|hl
    ·exact HO.out l hl
    ·rw [List.mem_singleton.1 hl];exact h)
   generalize ls[i]'hib=z at b0 HBAD HGO
   obtain ⟨zA,zc,lb⟩:=z
   simp only [slv] at b0 HBAD HGO
   generalize lb.length=k at b0 HBAD HGO
   subst hBA
   clear hib hbab
   by_cases hk:k<=500
   ·have d1:decide ((500:Int)<(k:Int))=false:=decide_eq_false (by omega)
    have HG:=hd_ (HGO.out hk)
    go_wp2_with fail
    go_roundw
    case rel=>exact ⟨i+1,by omega,by go_num,BW.out,HG⟩
    case measure=>simp [intOf];omega
   ·have d1:decide ((500:Int)<(k:Int))=true:=decide_eq_true (by omega)
    have hz:=hd_ (HBAD.out hk)
    go_wp2_with fail
    go_ret
    exact ⟨by rw [hz.out];rfl,BW.out⟩
  ·obtain rfl:m=i:=by omega
   have hlt:¬ (m:Int)<(m:Int):=by omega
   have HALL:=hd_ (show ∀ l ∈ ls,l.2.2.length<=500 from by have h:=HO.out;rw [<- HM.out,List.take_length] at h;exact h)
   by_cases hk:m<=100
   ·have d1:decide ((m:Int)<=100)=true:=decide_eq_true (by omega)
    have hz:=hd_ (show r=true by rw [<- HR.out];exact decide_eq_true ⟨HALL.out,by rw [HM.out];exact hk⟩)
    go_wp2_with fail
    go_ret
    exact ⟨by rw [hz.out];rfl,BW.out⟩
   ·have d1:decide ((m:Int)<=100)=false:=decide_eq_false (by omega)
    have hz:=hd_ (show r=false by rw [<- HR.out];exact decide_eq_false (fun h=>hk (by rw [<- HM.out];exact h.2)))
    go_wp2_with fail
    go_ret
    exact ⟨by rw [hz.out];rfl,BW.out⟩
theorem wSum_few {ls:List SL} (h:fewWP ls):wSum (wayl ls)<=1000000:=by
 have:∀ ls:List SL,(∀ l ∈ ls,l.2.2.length<=500)->wSum (wayl ls)<=500*ls.length:=fun ls=>by
  induction ls with
  | nil=>intro _;simp [wSum,wayl]
  | cons x l ih =>
   intro h
   have h1:=h x (List.mem_cons_self ..)
   have h2:=ih (fun y hy=>h y (List.mem_cons_of_mem _ hy))
   unfold wSum wayl at h2 ⊢
   simp only [List.map_cons,List.sum_cons,List.length_cons]
   omega
 have h1:=this ls h.1
 have h2:=h.2
 omega
theorem bitfileMake_walk (W H T:Int) (P:PK) (S:SPT) (B:Option Addr) (cB:Nat) (ls:List SL) (w:World) (hin:P.In w) (hwf:P.wf) (hsi:S.In w) (hls:SLs w B cB ls) (hn:ls.length<=maxLen) (hb:∀ l ∈ ls,l.2.2.length<=maxLen) :
  Calls Tryz.prog 3 #[.agg #[.int .i64 W,.int .i64 H,.int .i64 T],.agg #[.int .i64 P.I,.slice P.AB P.bs.length P.cB,.slice P.AO P.outs.length P.cO],.agg #[.slice S.AB S.sb.length S.cB,.slice S.AI S.si.length S.cI,.slice S.AO S.so.length S.cO],.slice B ls.length cB] w fun e w'=>e=.returned (.bool true)∧Below w.heap.size w w':=by
 have M0:=hd_ (Mk3.start w W H T P.I P.AB P.AO S.AB S.AI S.AO P.bs.length P.cB P.outs.length P.cO S.sb.length S.cB S.si.length S.cI S.so.length S.cO)
 have HI:=hd_ hin
 have HWF:=hd_ hwf
 have HSI:=hd_ hsi
 have HLS:=hd_ hls
 have HN:=hd_ hn
 have HFO:=hd_ (fewOf_any W H T P.I P.AB P.AO P.bs.length P.cB P.outs.length P.cO)
 clear hin hwf hsi hls hb hn
 go_enter Tryz.func3,Tryz.ntmps3
 go_upto_region 1 with (fail)
 generalize ((w.alloc (.cells #[.int .i64 W,.int .i64 H,.int .i64 T] 23)).alloc (.cells #[.int .i64 P.I,.slice P.AB P.bs.length P.cB,.slice P.AO P.outs.length P.cO] 27)).alloc (.cells #[.slice S.AB S.sb.length S.cB,.slice S.AI S.si.length S.cI,.slice S.AO S.so.length S.cO] 29)=w0 at M0 ⊢
 go_wp2_with fail
 refine (live31_any _).mono ?_
 rintro e w1 ⟨rfl,hb⟩
 have M1:=hd_ (M0.out.keep hb)
 clear hb M0
 have a0:=M1.out.a.cell 0
 have a1:=M1.out.a.cell 1
 have a2:=M1.out.a.cell 2
 have b0:=M1.out.p.cell 0
 have b1:=M1.out.p.cell 1
 have b2:=M1.out.p.cell 2
 have c0:=M1.out.s.cell 0
 have c1:=M1.out.s.cell 1
 have c2:=M1.out.s.cell 2
 obtain ⟨fo,hfo⟩:∃ fo,decide (fewOP W H T P.I P.bs.length P.outs.length)=fo:=⟨_,rfl⟩
 rw [hfo] at HFO
 have HF:=hd_ hfo
 clear hfo
 go_wp2_with fail
 refine (HFO.out _).mono ?_
 rintro e w2 ⟨rfl,hb⟩
 have M2:=hd_ (M1.out.keep hb)
 clear a0 a1 a2 b0 b1 b2 c0 c1 c2 hb HFO M1
 cases fo with
 | false =>
  go_wp2_with fail
  go_ret
  exact ⟨rfl,M2.out.q⟩
 | true =>
 have HFP:=hd_ (of_decide_eq_true HF.out)
 clear HF
 have a0:=M2.out.a.cell 0
 have a1:=M2.out.a.cell 1
 have a2:=M2.out.a.cell 2
 have b0:=M2.out.p.cell 0
 have b1:=M2.out.p.cell 1
 have b2:=M2.out.p.cell 2
 have c0:=M2.out.s.cell 0
 have c1:=M2.out.s.cell 1
 have c2:=M2.out.s.cell 2
 by_cases h1:(S.sb.length:Int)<=100
 case neg =>
  have d1:decide ((100:Int)<(S.sb.length:Int))=true:=decide_eq_true (by omega)
  go_wp2_with fail
  go_ret
  exact ⟨rfl,M2.out.q⟩
 have d1:decide ((100:Int)<(S.sb.length:Int))=false:=decide_eq_false (by omega)
 by_cases h2:(S.si.length:Int)<=100
 case neg =>
  have d2:decide ((100:Int)<(S.si.length:Int))=true:=decide_eq_true (by omega)
  go_wp2_with fail
  go_ret
  exact ⟨rfl,M2.out.q⟩
 have d2:decide ((100:Int)<(S.si.length:Int))=false:=decide_eq_false (by omega)
 by_cases h3:(S.so.length:Int)<=100
 case neg =>
  have d3:decide ((100:Int)<(S.so.length:Int))=true:=decide_eq_true (by omega)
  go_wp2_with fail
  go_ret
  exact ⟨rfl,M2.out.q⟩
 have d3:decide ((100:Int)<(S.so.length:Int))=false:=decide_eq_false (by omega)
 have HFW:=hd_ (fewWays_any B cB ls w2 (HLS.out.later M2.out.q) HN.out)
 obtain ⟨fw,hfw⟩:∃ fw,decide (fewWP ls)=fw:=⟨_,rfl⟩
 rw [hfw] at HFW
 have HF:=hd_ hfw
 clear hfw
 go_wp2_with fail
 refine HFW.out.mono ?_
 rintro e w3 ⟨rfl,hb⟩
 have M3:=hd_ (M2.out.keep hb)
 clear a0 a1 a2 b0 b1 b2 c0 c1 c2 hb HFW M2 d1 d2 d3
 cases fw with
 | false =>
  go_wp2_with fail
  go_ret
  exact ⟨rfl,M3.out.q⟩
 | true =>
 have HWP:=hd_ (of_decide_eq_true HF.out)
 clear HF
 have hfp:=HFP.out
 unfold fewOP few29P at hfp
 have hPF:=hd_ (show P.fit from ⟨HWF.out.i,by omega,HWF.out.t,fun b hb=>by have h:=HWF.out.l b hb;unfold maxLen at h;omega,by omega⟩)
 have hSF:=hd_ (show S.fit from ⟨by omega,by omega,by omega⟩)
 have HBM:=hd_ (bmake_any W H T P S B cB ls w3 (HI.out.later M3.out.q) hPF.out (by omega) (HSI.out.later M3.out.q) hSF.out (HLS.out.later M3.out.q) (fun x hx=>by have:=HWP.out.1 x hx;omega) (by have:=HWP.out.2;omega) (wSum_few HWP.out))
 have HFEW:=hd_ (show ∀ (C:Cfg) (x:Int),MkR W H T P S (wayl ls) C x->C.few from fun C x h=>h.few hSF.out (fun hok=>edges_few hok hfp.1.1 hfp.1.2.1 hfp.1.2.2))
 have a0:=M3.out.a.cell 0
 have a1:=M3.out.a.cell 1
 have a2:=M3.out.a.cell 2
 have b0:=M3.out.p.cell 0
 have b1:=M3.out.p.cell 1
 have b2:=M3.out.p.cell 2
 have c0:=M3.out.s.cell 0
 have c1:=M3.out.s.cell 1
 have c2:=M3.out.s.cell 2
 go_wp2_with fail
 refine HBM.out.mono ?_
 rintro e w4 ⟨C,x,rfl,hb,hC,hR⟩
 have M4:=hd_ (M3.out.keep hb)
 have HC:=hd_ hC
 have HR:=hd_ hR
 clear a0 a1 a2 b0 b1 b2 c0 c1 c2 hb hC hR HBM M3
 go_upto_region 5 with (fail)
 have X5:=hd_ (Blk.made w4 37 C.cells)
 have BW:=bn_ w4 (.cells C.cells 37)
 have M5:=hd_ (M4.out.keep BW)
 have HC5:=hd_ (HC.out.later BW)
 clear BW M4 HC
 generalize w4.alloc (.cells C.cells 37)=w5 at X5 M5 HC5 ⊢
 generalize w4.heap.size=g5 at X5 ⊢
 have HRM:=hd_ (rmake31_any W H T P S B cB ls w5 (HI.out.later M5.out.q) hPF.out (by omega) (HSI.out.later M5.out.q) hSF.out (HLS.out.later M5.out.q) (fun x hx=>by have:=HWP.out.1 x hx;omega) (by have:=HWP.out.2;omega) (wSum_few HWP.out))
 have a0:=M5.out.a.cell 0
 have a1:=M5.out.a.cell 1
 have a2:=M5.out.a.cell 2
 have b0:=M5.out.p.cell 0
 have b1:=M5.out.p.cell 1
 have b2:=M5.out.p.cell 2
 have c0:=M5.out.s.cell 0
 have c1:=M5.out.s.cell 1
 have c2:=M5.out.s.cell 2
 go_wp2_with fail
 refine HRM.out.mono ?_
 rintro e w6 ⟨D,y,rfl,hb,hD,hR⟩
 obtain ⟨rfl,hsame⟩:=HR.out.one hR
 have M6:=hd_ (M5.out.keep hb)
 have X6:=hd_ (X5.out.keep hb)
 have HC6:=hd_ (HC5.out.later hb)
 have HD6:=hd_ hD
 have HRD:=hd_ hR
 have HSM:=hd_ hsame
 clear a0 a1 a2 b0 b1 b2 c0 c1 c2 hb hD hR hsame HRM M5 X5 HC5
 go_upto_region 6 with (fail)
 have BW:=bn_ w6 (.cells D.cells 37)
 have Y7:=hd_ (Blk.made w6 37 D.cells)
 have X7:=hd_ (X6.out.keep BW)
 have M7:=hd_ (M6.out.keep BW)
 have HC7:=hd_ (HC6.out.later BW)
 have HD7:=hd_ (HD6.out.later BW)
 clear BW M6 X6 HC6 HD6
 generalize w6.alloc (.cells D.cells 37)=w7 at X7 Y7 M7 HC7 HD7 ⊢
 generalize w6.heap.size=g6 at Y7 ⊢
 have HSA:=hd_ (rsame_all C D w7 HC7.out HD7.out (HFEW.out C x HR.out) (HFEW.out D x HRD.out) HSM.out.1.1 HSM.out.1.2.1 HSM.out.1.2.2 HSM.out.2.2.1 HSM.out.2.2.2.1 HSM.out.2.2.2.2 HSM.out.2.1 (congrArg List.length HSM.out.2.1))
 obtain ⟨⟨k0,k1,k2,k3,k4,k5,k6⟩,-⟩:=cells7 X7.out
 obtain ⟨⟨j0,j1,j2,j3,j4,j5,j6⟩,-⟩:=cells7 Y7.out
 go_wp2_with fail
 refine HSA.out.mono ?_
 rintro e w8 ⟨rfl,hb⟩
 have Q8:=hd_ (bt_ M7.out.q hb)
 clear hb k0 k1 k2 k3 k4 k5 k6 j0 j1 j2 j3 j4 j5 j6 HSA
 go_wp2_with fail
 go_ret
 exact ⟨rfl,Q8.out⟩
theorem own:ownKnob Tryz.prog.godebug=none:=by kernel_rfl
theorem laidOut:laidOutB Tryz.prog=true:=by kernel_rfl
theorem bitfileMake_lifted (os:Os) (started:os.Started) (H:Type) (enc:TypeId × Value->H) :
  ReturnsInHanded {} Tryz.checked os 3 .any (Rows.bitfileMakeSpec.pre6 enc Tryz.prog Tryz.f3 Rows.bitfileMakeRow.domain false) (Rows.bitfileMakeSpec.post enc Tryz.prog Tryz.f3 false true false false):=by
 have hr:∀ t ∈ Tryz.f3.params.toList,Tryz.prog.readableRec t=true∧t<Tryz.prog.types.size:=by
  have h:Tryz.f3.params.toList.all (fun t=>Tryz.prog.readableRec t&&decide (t<Tryz.prog.types.size))=true:=by kernel_rfl
  intro t ht
  simpa using List.all_eq_true.1 h t ht
 refine returnsInHanded_of_change (C:=Tryz.checked) own started (by kernel_rfl) Tryz.func3
  (ChangeSpec.witness6 (enc:=enc) (C:=Tryz.checked) false ⟨#[],#[.agg #[.int .i64 0,.int .i64 0,.int .i64 0],.agg #[.int .i64 0,.slice none 0 0,.slice none 0 0],.agg #[.slice none 0 0,.slice none 0 0,.slice none 0 0],.slice none 0 0],[]⟩ 8 (by kernel_rfl) (by kernel_rfl) (by kernel_rfl) (by kernel_rfl)) ?_
 intro W base args ds gs before hval0 hW hcnd _
 have hval:∀ (j:Nat) t v,Tryz.f3.params[j]? = some t->args[j]? = some v->Value.okWide Tryz.prog W .any base t v:=hval0
 have hW':=hW
 obtain ⟨p,q,hA0,hV,rfl,hfz,hnd⟩:=hW
 have hA1:DataW.TrodAll enc Tryz.prog W 0 (fun _=>true) true Tryz.f3.params.toList args.toList ds p:=hA0
 have hA:=hA1
 rw [Tryz.params3] at hA hval
 obtain ⟨v0,vs0,d0,ds0,p0,q0,hargs,rfl,rfl,h0,r0⟩:=trodAll_cons hA
 obtain ⟨v1,vs1,d1,ds1,p1,q1,rfl,rfl,rfl,h1,r1⟩:=trodAll_cons r0
 obtain ⟨v2,vs2,d2,ds2,p2,q2,rfl,rfl,rfl,h2,r2⟩:=trodAll_cons r1
 obtain ⟨v3,vs3,d3,ds3,p3,q3,rfl,rfl,rfl,h3,r3⟩:=trodAll_cons r2
 obtain ⟨rfl,rfl,rfl⟩:=trodAll_nil r3
 obtain rfl:args=#[v0,v1,v2,v3]:=by cases args;simp_all
 obtain ⟨rfl,rfl⟩:=trodVars_none hV
 obtain ⟨c0,c1,c2,y0,y1,y2,m,rfl,rfl,rfl,hy0,hy1,hy2⟩:=open_agg3 Tryz.underlying23 (by kernel_rfl) (by kernel_rfl:Tryz.prog.cellsOf 23=3) (hval 0 23 v0 rfl rfl) h0
 obtain ⟨a0_0,e0,rfl,wa0_0⟩:=DataW.trod_int Tryz.underlying3 hy0
 obtain ⟨a0_1,e1,rfl,wa0_1⟩:=DataW.trod_int Tryz.underlying3 hy1
 obtain ⟨a0_2,e2,rfl,wa0_2⟩:=DataW.trod_int Tryz.underlying3 hy2
 simp at e0 e1 e2
 subst e0 e1 e2
 obtain ⟨P1,rfl,hin1,hwf1⟩:=open_pack (hval 1 27 v1 rfl rfl) h1
 obtain ⟨S2,rfl,hin2⟩:=open_spots (hval 2 29 v2 rfl rfl) h2
 obtain ⟨A3,c3,L3,rfl,hr3,hn3,hb3⟩:=open_ways (hval 3 30 v3 rfl rfl) h3
 clear hA0 hval0
 simp only [List.append_nil] at hW'
 simp only [List.append_nil] at hA1
 refine (bitfileMake_walk a0_0 a0_1 a0_2 P1 S2 A3 c3 L3 W hin1 hwf1 hin2 hr3 hn3 hb3).mono fun e W' ⟨he,hb⟩=>?_
 subst he
 exact ⟨_,rfl,law_post laidOut hr rfl hW' hA1 rfl rfl Tryz.underlying4 hb⟩
theorem bitfileMake_over:Rows.bitfileMakeRow.holds Tryz.pinned (OpenSpec.ofChange Rows.bitfileMakeSpec) :=
 OpenClaim.holds_of_wide 3 Tryz.f3 rfl rfl rfl rfl rfl rfl rfl ⟨rfl,rfl,rfl,rfl,rfl⟩ rfl rfl rfl rfl rfl (by kernel_rfl) Tryz.func3 (by kernel_rfl)
  (of_decide_eq_true (by kernel_rfl)) (by unfold Func.isWrapper;first|(rw [if_pos (by decide +kernel)];kernel_rfl)|(rw [if_neg (by decide +kernel)];exact ⟨rfl,rfl⟩))
  (fun os started H enc _=>bitfileMake_lifted os started H enc)
theorem bitfileMake_holds:Rows.BitfileMakeSaid:=bitfileMake_over
end Go.Proofs.YtmkiphadkmodnaaGreat
