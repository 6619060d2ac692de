/- BfM, 47 -/
import Derived.Deep.DeepCutAuto
import Derived.Test.YtmkiphadkmodnaaGreatZBfM39
import Derived.Test.YtmkiphadkmodnaaGreatZBfM0
import Derived.Test.YtmkiphadkmodnaaGreatZBfM43
import Derived.Test.YtmkiphadkmodnaaGreatZBfM46
set_option linter.all false
set_option maxRecDepth 100000
set_option maxHeartbeats 8000000
namespace Go.Proofs.YtmkiphadkmodnaaGreat
open Go.RowKit
theorem wFrom_pad {W H T:Int} {P:PK} {S:SPT} {n:Nat} (h:(n:Int)<P.I):wFrom W H T P S n=nodeN W H T 2 (S.si.getD n 0) 0 0:=if_pos h
theorem wFrom_out {W H T:Int} {P:PK} {S:SPT} {n q:Nat} (h:(n:Int)=P.I+(q:Int)):wFrom W H T P S n=nodeN W H T 0 (S.sb.getD q 0%W) (S.sb.getD q 0/W) 0:=by
 unfold wFrom
 rw [if_neg (by omega),show ((n:Int)-P.I).toNat=q by omega]
def FOk (W H T:Int) (P:PK) (S:SPT) (F:Nat->Int) (n:Nat):Prop:=∀ m,m<n->F m=wFrom W H T P S m
theorem FOk.next {W H T:Int} {P:PK} {S:SPT} {F:Nat->Int} {n:Nat} (h:FOk W H T P S F n) {v:Int} (hv:wFrom W H T P S n=v):FOk W H T P S (fun m=>if m=n then v else F m) (n+1):=fun m hm=>by
 show (if m=n then v else F m)=_
 by_cases e:m=n
 ·rw [if_pos e,e,hv]
 ·rw [if_neg e];exact h m (by omega)
theorem pwires_any (W H T:Int) (P:PK) (S:SPT) (w:World) (hin:P.In w) (hf:P.fit) (hsi:S.In w) (hsf:S.fit) :
  Calls Tryz.prog 18 #[.agg #[.int .i64 W,.int .i64 H,.int .i64 T],.agg #[.int .i64 P.I,.slice P.AB P.bs.length P.cB,.slice P.AO P.outs.length P.cO],.agg #[.slice S.AB S.sb.length S.cB,.slice S.AI S.si.length S.cI,.slice S.AO S.so.length S.cO]] w (WiresOut W H T P S w):=by
 have hb0:=bt_ (bt_ (bn_ w (.cells #[.int .i64 W,.int .i64 H,.int .i64 T] 23)) (bn_ _ (.cells #[.int .i64 P.I,.slice P.AB P.bs.length P.cB,.slice P.AO P.outs.length P.cO] 27))) (bn_ _ (.cells #[.slice S.AB S.sb.length S.cB,.slice S.AI S.si.length S.cI,.slice S.AO S.so.length S.cO] 29))
 have X0:=hd_ (((Blk.made w 23 #[.int .i64 W,.int .i64 H,.int .i64 T]).alloc (.cells #[.int .i64 P.I,.slice P.AB P.bs.length P.cB,.slice P.AO P.outs.length P.cO] 27)).alloc (.cells #[.slice S.AB S.sb.length S.cB,.slice S.AI S.si.length S.cI,.slice S.AO S.so.length S.cO] 29))
 have Y0:=hd_ ((blk_made1 w (.cells #[.int .i64 W,.int .i64 H,.int .i64 T] 23) 27 #[.int .i64 P.I,.slice P.AB P.bs.length P.cB,.slice P.AO P.outs.length P.cO]).alloc (.cells #[.slice S.AB S.sb.length S.cB,.slice S.AI S.si.length S.cI,.slice S.AO S.so.length S.cO] 29))
 have Z0:=hd_ (show Blk (((w.alloc (.cells #[.int .i64 W,.int .i64 H,.int .i64 T] 23)).alloc (.cells #[.int .i64 P.I,.slice P.AB P.bs.length P.cB,.slice P.AO P.outs.length P.cO] 27)).alloc (.cells #[.slice S.AB S.sb.length S.cB,.slice S.AI S.si.length S.cI,.slice S.AO S.so.length S.cO] 29)) (w.heap.size+1+1) 29 #[.slice S.AB S.sb.length S.cB,.slice S.AI S.si.length S.cI,.slice S.AO S.so.length S.cO] from by
  have:=Blk.made ((w.alloc (.cells #[.int .i64 W,.int .i64 H,.int .i64 T] 23)).alloc (.cells #[.int .i64 P.I,.slice P.AB P.bs.length P.cB,.slice P.AO P.outs.length P.cO] 27)) 29 #[.slice S.AB S.sb.length S.cB,.slice S.AI S.si.length S.cI,.slice S.AO S.so.length S.cO]
  simpa using this)
 have HB:=hd_ (pplace_any W H T P S _ (hin.later hb0) hf (hsi.later hb0) hsf)
 have HI:=hd_ hin
 have HSI:=hd_ hsi
 have Q0:=hd_ hb0
 obtain ⟨RR,hRR⟩:∃ R,WiresOut W H T P S w=R:=⟨_,rfl⟩
 have HRR:=hd_ hRR
 rw [hRR]
 obtain ⟨nb,hnb⟩:∃ n,S.sb.length=n:=⟨_,rfl⟩
 obtain ⟨ni,hni⟩:∃ n,S.si.length=n:=⟨_,rfl⟩
 obtain ⟨no,hno⟩:∃ n,S.so.length=n:=⟨_,rfl⟩
 obtain ⟨pb,hpb⟩:∃ n,P.bs.length=n:=⟨_,rfl⟩
 obtain ⟨po,hpo⟩:∃ n,P.outs.length=n:=⟨_,rfl⟩
 obtain ⟨pI,hpI⟩:∃ n,P.I=n:=⟨_,rfl⟩
 have hf1:=hsf.b
 have hf2:=hsf.i
 have hf3:=hsf.o
 simp only [hnb,hni,hno,hpb,hpo,hpI] at X0 Y0 Z0 Q0 HB hf1 hf2 hf3 ⊢
 have HNB:=hd_ hnb
 have HNI:=hd_ hni
 have HNO:=hd_ hno
 have HPB:=hd_ hpb
 have HPO:=hd_ hpo
 have HPI:=hd_ hpI
 clear hnb hni hno hpb hpo hpI hin hf hsi hsf hb0 hRR
 have a0:=X0.out.cell 0
 have a1:=X0.out.cell 1
 have a2:=X0.out.cell 2
 have b0:=Y0.out.cell 0
 have b1:=Y0.out.cell 1
 have b2:=Y0.out.cell 2
 have c0:=Z0.out.cell 0
 have c1:=Z0.out.cell 1
 have c2:=Z0.out.cell 2
 go_enter Tryz.func18,Tryz.ntmps18
 go_wp2_with fail
 refine HB.out.mono ?_
 rintro e w1 ⟨x,rfl,hx,hb1⟩
 have Q1:=hd_ (bt_ Q0.out hb1)
 have X1:=hd_ (X0.out.keep hb1)
 have Y1:=hd_ (Y0.out.keep hb1)
 have Z1:=hd_ (Z0.out.keep hb1)
 have HX:=hd_ hx
 clear hb1 hx HB a0 a1 a2 b0 b1 b2 c0 c1 c2 X0 Y0 Z0
 by_cases hx0:x=0
 case neg =>
  have hne:(x != 0)=true:=by rw [bne_iff_ne];exact hx0
  have HNE:=hd_ hx0
  clear hx0
  go_wp2_with fail
  rw [<- HRR.out]
  exact .inl ⟨_,rfl,HNE.out,HX.out,Q1.out⟩
 subst hx0
 obtain ⟨hok,hck,s1,s2,s3,s4,s5⟩:=HX.out.ok
 have hmay:=hck.may
 have HM:=hd_ hmay
 have HOK:=hd_ hok
 have HS4:=hd_ s4
 unfold okA at hok
 have hI0:=hmay.1
 have hI1:=hmay.2.1
 have hbn:=hmay.2.2.1
 rw [HNB.out,HPB.out] at s1
 rw [HNI.out,HPI.out] at s2
 rw [HNO.out,HPO.out] at s3
 rw [HPI.out] at hI0 hI1
 rw [HPB.out] at hbn
 have s1':nb<=pb∧pb<=nb:=by omega
 have s2':(ni:Int)<=pI∧pI<=(ni:Int):=by omega
 have s3':no<=po∧po<=no:=by omega
 clear s1 s2 s3 s4 s5 hck hmay
 obtain ⟨N,hN⟩:∃ N:Nat,pI+(pb:Int)=(N:Int):=⟨(pI+(pb:Int)).toNat,by omega⟩
 have hN3:N<=3000:=by omega
 have hNb:(N:Int)<=pI+(pb:Int)∧pI+(pb:Int)<=(N:Int):=by omega
 have HN:=hd_ hN
 have HMK:=wire_make w1 N (by omega)
 have A0:=hd_ (show AW w1 w1.heap.size N (fun _=>N) (noneW N) ((w1.alloc (.cells (wcells (noneW N)).toArray 87)).alloc (.cells #[.slice (some ⟨w1.heap.size,0,none⟩) N N] 53)) from
  {
   below:=bt_ (bn_ w1 _) (bn_ _ _)
   lo:=Nat.le_refl _
   all:=(Blk.made w1 _ _).alloc _
   box:=by have:=Blk.made (w1.alloc (.cells (wcells (noneW N)).toArray 87)) 53 #[.slice (some ⟨w1.heap.size,0,none⟩) N N];simpa using this
   len:=by simp [noneW]
   rows:=fun k x hx=>by
    have:x=(0,none,0,[]):=by
     unfold noneW at hx
     rw [List.getElem?_replicate] at hx
     split at hx
     ·exact (Option.some.inj hx).symm
     ·cases hx
    subst this
    exact ⟨World.ownsRow_nil _ _ _ _,fun g hg=>by cases hg⟩ })
 have b0:=Y1.out.cell 0
 have b1:=Y1.out.cell 1
 have c1:=(Z1.out.keep A0.out.below).cell 1
 go_wp2_with (with_reducible refine wpList_make_eq _ rfl (.tmp 37) (.tmp 37) 53 rfl rfl rfl HMK ?_)
 clear HMK
 generalize hw2:(w1.alloc (.cells (wcells (noneW N)).toArray 87)).alloc (.cells #[.slice (some ⟨w1.heap.size,0,none⟩) N N] 53)=w2 at A0 c1 ⊢
 generalize hga:w1.heap.size=ga at A0 ⊢
 have HGA:=hd_ hga
 clear hw2 hga b0 b1
 have HKX:=hd_ (show ∀ (f:Nat->Nat) (ws:List WM) (W':World),AW w1 ga N f ws W'->Blk W' w.heap.size 23 #[.int .i64 W,.int .i64 H,.int .i64 T] from fun f ws W' h=>X1.out.keep h.below)
 have HKY:=hd_ (show ∀ (f:Nat->Nat) (ws:List WM) (W':World),AW w1 ga N f ws W'->Blk W' (w.heap.size+1) 27 #[.int .i64 pI,.slice P.AB pb P.cB,.slice P.AO po P.cO] from fun f ws W' h=>Y1.out.keep h.below)
 have HKZ:=hd_ (show ∀ (f:Nat->Nat) (ws:List WM) (W':World),AW w1 ga N f ws W'->Blk W' (w.heap.size+1+1) 29 #[.slice S.AB nb S.cB,.slice S.AI ni S.cI,.slice S.AO no S.cO] from fun f ws W' h=>Z1.out.keep h.below)
 have HS:=hd_ (show ∀ (f:Nat->Nat) (ws:List WM) (w':World),AW w1 ga N f ws w'->(w'.cell? ⟨w.heap.size,0,none⟩=some (.int .i64 W)∧w'.cell? ⟨w.heap.size,1,none⟩=some (.int .i64 H)∧w'.cell? ⟨w.heap.size,2,none⟩=some (.int .i64 T)∧w'.cell? ⟨ga+1,0,none⟩=some (.slice (some ⟨ga,0,none⟩) N N)) from fun f ws W' h=>⟨(HKX.out f ws W' h).cell 0,(HKX.out f ws W' h).cell 1,(HKX.out f ws W' h).cell 2,h.box.cell 0⟩)
 have HS15:=hd_ (show ∀ (f:Nat->Nat) (ws:List WM) (w':World),AW w1 ga N f ws w'->(w'.cell? ⟨w.heap.size,0,none⟩=some (.int .i64 W)∧w'.cell? ⟨w.heap.size,1,none⟩=some (.int .i64 H)∧w'.cell? ⟨w.heap.size,2,none⟩=some (.int .i64 T)∧w'.cell? ⟨ga+1,0,none⟩=some (.slice (some ⟨ga,0,none⟩) N N)∧w'.cell? ⟨w.heap.size+1,0,none⟩=some (.int .i64 pI)) from fun f ws W' h=>⟨(HKX.out f ws W' h).cell 0,(HKX.out f ws W' h).cell 1,(HKX.out f ws W' h).cell 2,h.box.cell 0,(HKY.out f ws W' h).cell 0⟩)
 clear c1
 go_loopw [42] (fun v42 wx=>∃ (kk:Nat) (f:Nat->Nat) (F:Nat->Int) (ws:List WM),kk<=ni∧v42=.int .i64 (kk:Int)∧AW w1 ga N f ws wx∧Hid (PWR N F [] ws)∧Hid (FOk W H T P S F kk)) (fun v42 _=>ni-(intOf v42).toNat)
 case atStart=>exact ⟨0,_,_,_,by omega,rfl,A0.out,hd_ (PWR.start N),hd_ (fun m hm=>by omega)⟩
 case round =>
  clear A0
  obtain ⟨kk,f,F,ws,hk,rfl,ha,PQ,FQ⟩:=hrel
  have AQ:=hd_ ha
  clear ha
  by_cases hkn:kk<ni
  case pos =>
   have hkn':(kk:Int)<(ni:Int):=by omega
   have hkl:kk<ws.length:=by have:=AQ.out.len;omega
   have hkN:(kk:Int)<(N:Int):=by omega
   obtain ⟨pa,hPA,hpb,e0⟩:=HSI.out.i.int (k:=kk) (by rw [HNI.out];exact hkn)
   have e1:=((bt_ Q1.out AQ.out.below).cell (p:=pa.add kk) (by rw [add_block];exact hpb)).trans e0
   have hfr:=wFrom_pad (W:=W) (H:=H) (T:=T) (P:=P) (S:=S) (n:=kk) (by rw [HPI.out];omega)
   generalize S.si.getD kk 0=z at e1 hfr
   have HFN:=hd_ (show ∀ v,nodeN W H T 2 z 0 0=v->FOk W H T P S (fun m=>if m=kk then v else F m) (kk+1) from fun v hv=>FQ.out.next (by rw [hfr,hv]))
   obtain ⟨d0_,d1_,d2_,d3_⟩:=HS.out _ _ wr AQ.out
   rw [hPA]
   clear hPA hpb e0 hfr
   go_upto_region 8 with (fail)
   clear e1
   refine wp_region_held_drew (S:=(fun w'=>w'.cell? ⟨w.heap.size,0,none⟩=some (.int .i64 W)∧w'.cell? ⟨w.heap.size,1,none⟩=some (.int .i64 H)∧w'.cell? ⟨w.heap.size,2,none⟩=some (.int .i64 T)∧w'.cell? ⟨ga+1,0,none⟩=some (.slice (some ⟨ga,0,none⟩) N N))) (by kernel_rfl) ?_ (fun hh=>?_)
   ·(first|exact HS.out _ _ _ AQ.out|exact HS.out _ _ _ (AQ.out.keep bd_)|exact HS.out _ _ _ AQ6.out|exact HS.out _ _ _ (AQ6.out.from_ hkl _))
   refine tk_ 0 (⟨some 48,.load 53 (.tmp 9),53,_,#[],none⟩) (v:=?_) ?_ ?_
   rotate_left
   ·intro w hSw;(try dsimp only at hSw);go_simp;(try with_reducible rfl)
   try simp only [Act.put,la_,lz_,ls_]
   refine tk_ 1 (⟨some 49,.move (.tmp 10),3,_,#[],none⟩) (v:=?_) ?_ ?_
   rotate_left
   ·intro w hSw;(try dsimp only at hSw);go_simp;(try with_reducible rfl)
   try simp only [Act.put,la_,lz_,ls_]
   refine tk_ 2 (⟨some 50,.load 23 (.tmp 3),23,_,#[],none⟩) (v:=?_) ?_ ?_
   rotate_left
   ·intro w hSw;(try dsimp only at hSw);go_simp;(try with_reducible rfl)
   try simp only [Act.put,la_,lz_,ls_]
   refine tk_ 3 (⟨some 51,.move (.tmp 11),3,_,#[],none⟩) (v:=?_) ?_ ?_
   rotate_left
   ·intro w hSw;(try dsimp only at hSw);go_simp;(try with_reducible rfl)
   try simp only [Act.put,la_,lz_,ls_]
   refine rd_ [4] ?_
   refine AllReadyH.cons (o:=⟨some 52,.call { callee:=.value (.func 47),args:=#[.tmp 50,.tmp 51],argTypes:=#[23,3] },84,_,#[⟨2,.data⟩,⟨3,.data⟩],none⟩) rfl (fun K hK=>?_) AllReadyH.nil
   go_simp
   with_reducible refine (pad_any W H T z _).mono ?_
   rintro e w6 ⟨rfl,hb6⟩
   have AQ6:=hd_ (AQ.out.keep (bt_ bd_ hb6))
   have d0:=AQ6.out.all.cell (kk*2)
   have f0:=AQ6.out.all.free (kk*2)
   obtain ⟨vv,hvv⟩:∃ vv,(wcells ws)[kk*2]? = some vv:=⟨_,(wcells_get ws kk hkl).1⟩
   rw [List.getElem?_toArray,hvv] at d0
   clear hb6 hvv
   refine hK.out _ _ ?_ (fun hh=>?_)
   ·(first|exact HS.out _ _ _ AQ.out|exact HS.out _ _ _ (AQ.out.keep bd_)|exact HS.out _ _ _ AQ6.out|exact HS.out _ _ _ (AQ6.out.from_ hkl _))
   clear hK K
   try simp only [Act.put,la_,lz_,ls_]
   refine tk_ 5 (⟨some 47,.move (.tmp 52),84,_,#[⟨4,.data⟩],none⟩) (v:=?_) ?_ ?_
   rotate_left
   ·intro w hSw;(try dsimp only at hSw);go_simp;(try with_reducible rfl)
   try simp only [Act.put,la_,lz_,ls_]
   refine tk_ 6 (⟨some 53,.extract (.tmp 47) 0,3,_,#[⟨5,.data⟩],none⟩) (v:=?_) ?_ ?_
   rotate_left
   ·intro w hSw;(try dsimp only at hSw);go_simp;(try with_reducible rfl)
   try simp only [Act.put,la_,lz_,ls_]
   refine tk_ 7 (⟨some 54,.extract (.tmp 47) 1,38,_,#[⟨5,.data⟩,⟨10,.gcOnly .lateStores⟩],none⟩) (v:=?_) ?_ ?_
   rotate_left
   ·intro w hSw;(try dsimp only at hSw);go_simp;(try with_reducible rfl)
   try simp only [Act.put,la_,lz_,ls_]
   refine tk_ 8 (⟨some 55,.indexAddr 53 (.tmp 48) (.tmp 49),0,_,#[⟨0,.data⟩,⟨1,.data⟩,⟨0,.phase⟩,⟨1,.phase⟩,⟨2,.phase⟩,⟨3,.phase⟩,⟨4,.phase⟩,⟨5,.phase⟩,⟨6,.phase⟩,⟨7,.textOnly .lateStores⟩],none⟩) (v:=?_) ?_ ?_
   rotate_left
   ·intro w hSw;(try dsimp only at hSw);go_simp;(try with_reducible rfl)
   try simp only [Act.put,la_,lz_,ls_]
   refine tk_ 9 (⟨some 56,.fieldAddr 87 (.tmp 55) 0,0,_,#[⟨8,.data⟩,⟨0,.phase⟩,⟨1,.phase⟩,⟨2,.phase⟩,⟨3,.phase⟩,⟨4,.phase⟩,⟨5,.phase⟩,⟨6,.phase⟩,⟨7,.textOnly .lateStores⟩],none⟩) (v:=?_) ?_ ?_
   rotate_left
   ·intro w hSw;(try dsimp only at hSw);go_simp;(try with_reducible rfl)
   try simp only [Act.put,la_,lz_,ls_]
   refine rd_ [10] ?_
   refine AllReadyH.cons (o:=⟨none,.store 3 (.tmp 56) (.tmp 53),0,_,#[⟨9,.data⟩,⟨6,.data⟩,⟨4,.chain⟩,⟨0,.phase⟩,⟨1,.phase⟩,⟨2,.phase⟩,⟨3,.phase⟩,⟨4,.phase⟩,⟨5,.phase⟩,⟨6,.phase⟩,⟨7,.textOnly .lateStores⟩],none⟩) rfl (fun K hK=>?_) AllReadyH.nil
   go_simp
   refine hK.out _ _ ?_ (fun hh=>?_)
   ·(first|exact HS.out _ _ _ AQ.out|exact HS.out _ _ _ (AQ.out.keep bd_)|exact HS.out _ _ _ AQ6.out|exact HS.out _ _ _ (AQ6.out.from_ hkl _))
   clear hK K
   try simp only [Act.put,la_,lz_,ls_]
   refine wpAnyH_done (by kernel_rfl) ?_ _
   have AF:=hd_ (AQ6.out.from_ hkl (nodeN W H T 2 z 0 0))
   have PF:=hd_ (PQ.out.from_ hkl (nodeN W H T 2 z 0 0))
   clear d0 f0
   go_wp2_with fail
   go_roundw
   case rel=>exact ⟨kk+1,f,_,_,by omega,by go_num,AF.out,PF,hd_ (HFN.out _ rfl)⟩
   case measure=>simp [intOf];omega
  obtain rfl:ni=kk:=by omega
  have hlt:¬ (ni:Int)<(ni:Int):=by omega
  have b1:=(HKY.out f ws wr AQ.out).cell 1
  go_wp2_with fail
  clear hlt b1
  go_loopw [62] (fun v62 wx=>∃ (i:Nat) (f:Nat->Nat) (F:Nat->Int) (ws:List WM),i<=pb∧v62=.int .i64 (i:Int)∧AW w1 ga N f ws wx∧Hid (PWR N F (evTo W H T P S i) ws)∧Hid (FOk W H T P S F (ni+i))) (fun v62 _=>pb-(intOf v62).toNat)
  case atStart=>exact ⟨0,f,F,ws,by omega,rfl,AQ.out,PQ,FQ⟩
  case round =>
   clear AQ PQ FQ
   obtain ⟨i,f,F,ws,hi,rfl,ha,PQ,FQ⟩:=hrel
   have AQ0:=hd_ ha
   clear ha
   by_cases hip:i<pb
   case pos =>
    have hip':(i:Int)<(pb:Int):=by omega
    have hinb:i<nb:=by omega
    obtain ⟨pa,hPA,hpb,e0⟩:=HSI.out.b.int (k:=i) (by rw [HNB.out];exact hinb)
    have hz:0<=S.sb.getD i 0∧S.sb.getD i 0<W*H:=HS4.out.1 _ (by
     have hl:i<S.sb.length:=by rw [HNB.out];exact hinb
     rw [List.getD_eq_getElem?_getD,List.getElem?_eq_getElem hl]
     exact List.getElem_mem hl)
    have hib:i<P.bs.length:=by rw [HPB.out];exact hip
    have hbk:=HM.out.2.2.2.1 _ (List.getElem_mem hib)
    have hbl:=hbk.1
    have hany:=any_bad_no hbk.2.1
    have hev:evTo W H T P S (i+1)=evTo W H T P S i++evIn W H T (S.sb.getD i 0) P.bs[i].l P.bs[i].l.length:=by rw [evTo,inL_get hib]
    obtain ⟨pq,hPQ,hpqb,q0,q1,q2,q3⟩:=HI.out.blocks.block (k:=i) hib
    have hea:=HI.out.each _ (List.getElem_mem hib)
    have hlE:=evTo_len W H T S (fun b hb=>(HM.out.2.2.2.1 b hb).1) i
    have HEV:=hd_ hev
    obtain ⟨kk,hkk⟩:∃ kk:Nat,pI+(i:Int)=(kk:Int):=⟨ni+i,by omega⟩
    have hkk2:kk=ni+i:=by omega
    have hfr:=wFrom_out (W:=W) (H:=H) (T:=T) (P:=P) (S:=S) (n:=kk) (q:=i) (by rw [HPI.out,hkk])
    generalize S.sb.getD i 0=z at e0 hz HEV hfr
    generalize P.bs[i]=bl at hbl q0 q1 q2 q3 hea HEV hany
    obtain ⟨bA,bc,l,bt,bf,bi⟩:=bl
    simp only at hbl q0 q1 q2 q3 hea HEV hany
    have HEA:=hd_ hea
    have HANY:=hd_ hany
    obtain ⟨ql,hql⟩:∃ q,l.length=q:=⟨_,rfl⟩
    have HQL:=hd_ hql
    rw [hql] at hbl q0
    have hQ:=bt_ Q1.out AQ0.out.below
    have e1:=(hQ.cell (p:=pa.add i) (by rw [add_block];exact hpb)).trans e0
    obtain ⟨gq,hgq⟩:∃ p,pq.add (i*4)=p:=⟨_,rfl⟩
    have hgqb:gq.block<w.heap.size:=by rw [<- hgq,add_block];exact hpqb
    rw [hgq] at q0 q1 q2 q3
    have r0:=(hQ.cell hgqb).trans q0
    have r1:=(hQ.cell (p:=⟨gq.block,gq.off+1,none⟩) hgqb).trans q1
    have r2:=(hQ.cell (p:=⟨gq.block,gq.off+2,none⟩) hgqb).trans q2
    have r3:=(hQ.cell (p:=⟨gq.block,gq.off+3,none⟩) hgqb).trans q3
    obtain ⟨X,hX⟩:∃ X,z%W=X:=⟨_,rfl⟩
    obtain ⟨Y,hY⟩:∃ Y,z/W=Y:=⟨_,rfl⟩
    have m1:=mul_bd (a:=W) (b:=H) (A:=16) (B:=16) (by omega) (by omega) (by omega) (by omega)
    have hXb:0<=X∧X<W:=by rw [<- hX];exact ⟨Int.emod_nonneg _ (by omega),Int.emod_lt_of_pos _ (by omega)⟩
    have hYb:0<=Y∧Y<=z:=by rw [<- hY];exact ⟨Int.ediv_nonneg hz.1 (by omega),Int.ediv_le_self _ hz.1⟩
    have htm:z.tmod W=X:=by rw [Int.tmod_eq_emod_of_nonneg hz.1,hX]
    have htd:z.tdiv W=Y:=by rw [Int.tdiv_eq_ediv_of_nonneg hz.1,hY]
    have hwY:IntKind.i64.wrap Y=Y:=IntWalk.i64_in _ (by omega)
    have hwX:IntKind.i64.wrap X=X:=IntWalk.i64_in _ (by omega)
    have hwkk:IntKind.i64.wrap (kk:Int)=(kk:Int):=IntWalk.i64_in _ (by omega)
    have hW0:¬ W=0:=by omega
    rw [hX,hY] at hfr
    have HXX:=hd_ hX
    have HYY:=hd_ hY
    have HPA:=hd_ hPA
    have hkl:kk<ws.length:=by have:=AQ0.out.len;omega
    have hkN:(kk:Int)<(N:Int):=by omega
    have HFN:=hd_ (show ∀ v,nodeN W H T 0 X Y 0=v->FOk W H T P S (fun m=>if m=kk then v else F m) (kk+1) from fun v hv=>FOk.next (by rw [hkk2];exact FQ.out) (by rw [hfr,hv]))
    have HKK2:=hd_ hkk2
    have BK0:=hd_ (Blk.made wr 62 #[.slice bA ql bc,.int .i64 bt,.bool bf,.bool bi])
    have AQ1:=hd_ (AQ0.out.keep (bn_ wr (.cells #[.slice bA ql bc,.int .i64 bt,.bool bf,.bool bi] 62)))
    have E1:=hd_ (((bn_ wr (.cells #[.slice bA ql bc,.int .i64 bt,.bool bf,.bool bi] 62)).cell (World.block_lt_of_cell? wr (pa.add i) e1)).trans e1)
    have hgl:ga+1<wr.heap.size:=AQ0.out.box.lt
    rw [hPQ]
    clear hPA hpb e0 hib hbk hev hea hPQ hpqb q0 q1 q2 q3 hql hQ hX hY hfr hany hkk2 e1
    go_upto_region 14 with (fail)
    clear r0 r1 r2 r3
    generalize wr.alloc (.cells #[.slice bA ql bc,.int .i64 bt,.bool bf,.bool bi] 62)=w3 at BK0 AQ1 E1 ⊢
    generalize wr.heap.size=g14 at BK0 hgl ⊢
    have hZZ:=HKZ.out _ _ w3 AQ1.out
    rw [HPA.out] at hZZ
    have c0:=hZZ.cell 0
    have a0:=(HKX.out _ _ w3 AQ1.out).cell 0
    have e1:=E1.out
    clear hZZ
    refine wp_region_still_in (by kernel_rfl) (by kernel_rfl) fun St9 ne9 V9 hV9 hS9=>?_
    have qc0:=still_cell hV9 c0
    have qa0:=still_cell hV9 a0
    have qe1:=still_cell hV9 e1
    repeat (first|go_big_quiet_step (fail)|quiet_step (fail))
    refine wpQuiet_nil ?_
    intro _ hw9
    obtain ⟨s9,rfl⟩:=hw9
    have hb9:=hV9 s9
    clear qc0 qa0 qe1 hS9
    generalize V9 s9=w9 at hb9 ⊢
    clear hV9 s9 V9 ne9 St9
    have AQ:=hd_ (AQ1.out.keep hb9)
    have BK9:=hd_ (BK0.out.keep hb9)
    clear hb9 c0 a0 e1 AQ0 AQ1 BK0 E1
    go_upto_region 15 with (fail)
    refine wp_region_held_drew (S:=(fun w'=>w'.cell? ⟨w.heap.size,0,none⟩=some (.int .i64 W)∧w'.cell? ⟨w.heap.size,1,none⟩=some (.int .i64 H)∧w'.cell? ⟨w.heap.size,2,none⟩=some (.int .i64 T)∧w'.cell? ⟨ga+1,0,none⟩=some (.slice (some ⟨ga,0,none⟩) N N)∧w'.cell? ⟨w.heap.size+1,0,none⟩=some (.int .i64 pI))) (by kernel_rfl) ?_ (fun hh=>?_)
    ·(first|exact HS15.out _ _ _ AQ.out|exact HS15.out _ _ _ (AQ.out.keep bd_)|exact HS15.out _ _ _ AQ6.out|exact HS15.out _ _ _ (AQ6.out.from_ hkl _))
    refine tk_ 0 (⟨some 84,.load 53 (.tmp 9),53,_,#[],none⟩) (v:=?_) ?_ ?_
    rotate_left
    ·intro w hSw;(try dsimp only at hSw);go_simp;(try with_reducible rfl)
    try simp only [Act.put,la_,lz_,ls_]
    refine tk_ 1 (⟨some 85,.fieldAddr 27 (.tmp 4) 0,0,_,#[],none⟩) (v:=?_) ?_ ?_
    rotate_left
    ·intro w hSw;(try dsimp only at hSw);go_simp;(try with_reducible rfl)
    try simp only [Act.put,la_,lz_,ls_]
    refine tk_ 2 (⟨some 86,.load 3 (.tmp 85),3,_,#[⟨1,.data⟩],none⟩) (v:=?_) ?_ ?_
    rotate_left
    ·intro w hSw;(try dsimp only at hSw);go_simp;(try with_reducible rfl)
    try simp only [Act.put,la_,lz_,ls_]
    refine tk_ 3 (⟨some 87,.move (.tmp 13),3,_,#[],none⟩) (v:=?_) ?_ ?_
    rotate_left
    ·intro w hSw;(try dsimp only at hSw);go_simp;(try with_reducible rfl)
    try simp only [Act.put,la_,lz_,ls_]
    refine tk_ 4 (⟨some 88,.binOp BinOp.add 3 (.tmp 86) (.tmp 87) 3,3,_,#[⟨2,.data⟩,⟨3,.data⟩],none⟩) (v:=?_) ?_ ?_
    rotate_left
    ·intro w hSw;(try dsimp only at hSw);go_simp;(try with_reducible rfl)
    try simp only [Act.put,la_,lz_,ls_]
    refine tk_ 5 (⟨some 89,.load 23 (.tmp 3),23,_,#[],none⟩) (v:=?_) ?_ ?_
    rotate_left
    ·intro w hSw;(try dsimp only at hSw);go_simp;(try with_reducible rfl)
    try simp only [Act.put,la_,lz_,ls_]
    refine tk_ 6 (⟨some 90,.move (.tmp 15),3,_,#[],none⟩) (v:=?_) ?_ ?_
    rotate_left
    ·intro w hSw;(try dsimp only at hSw);go_simp;(try with_reducible rfl)
    try simp only [Act.put,la_,lz_,ls_]
    refine tk_ 7 (⟨some 91,.move (.tmp 16),3,_,#[],none⟩) (v:=?_) ?_ ?_
    rotate_left
    ·intro w hSw;(try dsimp only at hSw);go_simp;(try with_reducible rfl)
    try simp only [Act.put,la_,lz_,ls_]
    refine rd_ [8] ?_
    refine AllReadyH.cons (o:=⟨some 92,.call { callee:=.value (.func 49),args:=#[.tmp 89,.tmp 90,.tmp 91],argTypes:=#[23,3,3] },84,_,#[⟨5,.data⟩,⟨6,.data⟩,⟨7,.data⟩],none⟩) rfl (fun K hK=>?_) AllReadyH.nil
    go_simp
    with_reducible refine (out_any W H T X Y _).mono ?_
    rintro e w6 ⟨rfl,hb6⟩
    have AQ6:=hd_ (AQ.out.keep (bt_ bd_ hb6))
    have d0:=AQ6.out.all.cell (kk*2)
    have f0:=AQ6.out.all.free (kk*2)
    obtain ⟨vv,hvv⟩:∃ vv,(wcells ws)[kk*2]? = some vv:=⟨_,(wcells_get ws kk hkl).1⟩
    rw [List.getElem?_toArray,hvv] at d0
    have BK6:=hd_ ((BK9.out.keep (bt_ bd_ hb6)).apart (p:=⟨ga,kk*2,none⟩) (by show g14≠ga;omega) (.int .i64 (nodeN W H T 0 X Y 0)))
    clear hb6 hvv
    refine hK.out _ _ ?_ (fun hh=>?_)
    ·(first|exact HS15.out _ _ _ AQ.out|exact HS15.out _ _ _ (AQ.out.keep bd_)|exact HS15.out _ _ _ AQ6.out|exact HS15.out _ _ _ (AQ6.out.from_ hkl _))
    clear hK K
    try simp only [Act.put,la_,lz_,ls_]
    refine tk_ 9 (⟨some 83,.move (.tmp 92),84,_,#[⟨8,.data⟩],none⟩) (v:=?_) ?_ ?_
    rotate_left
    ·intro w hSw;(try dsimp only at hSw);go_simp;(try with_reducible rfl)
    try simp only [Act.put,la_,lz_,ls_]
    refine tk_ 10 (⟨some 93,.extract (.tmp 83) 0,3,_,#[⟨9,.data⟩],none⟩) (v:=?_) ?_ ?_
    rotate_left
    ·intro w hSw;(try dsimp only at hSw);go_simp;(try with_reducible rfl)
    try simp only [Act.put,la_,lz_,ls_]
    refine tk_ 11 (⟨some 94,.extract (.tmp 83) 1,38,_,#[⟨9,.data⟩,⟨14,.gcOnly .lateStores⟩],none⟩) (v:=?_) ?_ ?_
    rotate_left
    ·intro w hSw;(try dsimp only at hSw);go_simp;(try with_reducible rfl)
    try simp only [Act.put,la_,lz_,ls_]
    refine tk_ 12 (⟨some 95,.indexAddr 53 (.tmp 84) (.tmp 88),0,_,#[⟨0,.data⟩,⟨4,.data⟩,⟨0,.phase⟩,⟨1,.phase⟩,⟨2,.phase⟩,⟨3,.phase⟩,⟨4,.phase⟩,⟨5,.phase⟩,⟨6,.phase⟩,⟨7,.phase⟩,⟨8,.phase⟩,⟨9,.phase⟩,⟨10,.phase⟩,⟨11,.textOnly .lateStores⟩],none⟩) (v:=?_) ?_ ?_
    rotate_left
    ·intro w hSw;(try dsimp only at hSw);go_simp;(try with_reducible rfl)
    try simp only [Act.put,la_,lz_,ls_]
    refine tk_ 13 (⟨some 96,.fieldAddr 87 (.tmp 95) 0,0,_,#[⟨12,.data⟩,⟨0,.phase⟩,⟨1,.phase⟩,⟨2,.phase⟩,⟨3,.phase⟩,⟨4,.phase⟩,⟨5,.phase⟩,⟨6,.phase⟩,⟨7,.phase⟩,⟨8,.phase⟩,⟨9,.phase⟩,⟨10,.phase⟩,⟨11,.textOnly .lateStores⟩],none⟩) (v:=?_) ?_ ?_
    rotate_left
    ·intro w hSw;(try dsimp only at hSw);go_simp;(try with_reducible rfl)
    try simp only [Act.put,la_,lz_,ls_]
    refine rd_ [14] ?_
    refine AllReadyH.cons (o:=⟨none,.store 3 (.tmp 96) (.tmp 93),0,_,#[⟨13,.data⟩,⟨10,.data⟩,⟨8,.chain⟩,⟨0,.phase⟩,⟨1,.phase⟩,⟨2,.phase⟩,⟨3,.phase⟩,⟨4,.phase⟩,⟨5,.phase⟩,⟨6,.phase⟩,⟨7,.phase⟩,⟨8,.phase⟩,⟨9,.phase⟩,⟨10,.phase⟩,⟨11,.textOnly .lateStores⟩],none⟩) rfl (fun K hK=>?_) AllReadyH.nil
    go_simp
    refine hK.out _ _ ?_ (fun hh=>?_)
    ·(first|exact HS15.out _ _ _ AQ.out|exact HS15.out _ _ _ (AQ.out.keep bd_)|exact HS15.out _ _ _ AQ6.out|exact HS15.out _ _ _ (AQ6.out.from_ hkl _))
    clear hK K
    try simp only [Act.put,la_,lz_,ls_]
    refine wpAnyH_done (by kernel_rfl) ?_ _
    have AF:=hd_ (AQ6.out.from_ hkl (nodeN W H T 0 X Y 0))
    have PF:=hd_ (PQ.out.from_ hkl (nodeN W H T 0 X Y 0))
    have FF:=hd_ (HFN.out _ rfl)
    generalize w6.setCell ⟨ga,kk*2,none⟩ (.int .i64 (nodeN W H T 0 X Y 0))=w7 at AF BK6 ⊢
    generalize (fun n=>if n=kk then nodeN W H T 0 X Y 0 else F n)=F2 at PF FF
    generalize (ws.set kk (nodeN W H T 0 X Y 0,ws[kk].2))=ws2 at AF PF
    clear d0 f0
    have BK7:=BK6
    have t0:=BK7.out.cell 0
    go_wp2_with fail
    clear t0
    go_loopw [100] (fun v100 wx=>∃ (q:Nat) (f:Nat->Nat) (ws:List WM),q<=ql∧v100=.int .i64 (q:Int)∧AW w1 ga N f ws wx∧Hid (PWR N F2 (evTo W H T P S i++evIn W H T z l q) ws)) (fun v100 _=>ql-(intOf v100).toNat)
    case atStart=>exact ⟨0,f,ws2,by omega,rfl,AF.out,hd_ (by simp only [evIn,List.range_zero,List.map_nil,List.append_nil];exact PF)⟩
    case round =>
     clear AF PF
     obtain ⟨q,f,ws,hq,rfl,ha,PQ⟩:=hrel
     have AQ:=hd_ ha
     clear ha
     by_cases hqq:q<ql
     case neg =>
      obtain rfl:ql=q:=by omega
      have hlt:¬ (ql:Int)<(ql:Int):=by omega
      go_wp2_with fail
      go_roundw
      case rel=>exact ⟨i+1,f,F2,ws,by omega,by go_num,AQ.out,hd_ (by rw [HEV.out,HQL.out];exact PQ.out),hd_ (by rw [<- Nat.add_assoc,<- HKK2.out];exact FF)⟩
      case measure=>simp [intOf];omega
     have hqq':(q:Int)<(ql:Int):=by omega
     have hqll:q<l.length:=by rw [HQL.out];exact hqq
     obtain ⟨pe,hPE,hpeb,e0⟩:=HEA.out.int (k:=q) (by rw [HQL.out];exact hqq)
     have e1:=((bt_ Q1.out AQ.out.below).cell (p:=pe.add q) (by rw [add_block];exact hpeb)).trans e0
     have hxb:=HANY.out (l.getD q 0) (by rw [List.getD_eq_getElem?_getD,List.getElem?_eq_getElem hqll];exact List.getElem_mem hqll)
     have hnx:=evIn_next W H T z l q
     rw [HXX.out,HYY.out] at hnx
     have HNX:=hd_ hnx
     unfold PK.N at hxb
     rw [HPI.out,HPB.out] at hxb
     generalize l.getD q 0=x at e1 HNX hxb
     obtain ⟨k,rfl⟩:∃ k:Nat,x=(k:Int):=⟨x.toNat,by omega⟩
     have hk:k<ws.length:=by have:=AQ.out.len;omega
     have hlw:ws[k].2.2.2.length<=1000000:=by
      have h1:=congrArg Prod.snd (PQ.out.get hk)
      simp only at h1
      rw [h1]
      have h2:=atW_len (evTo W H T P S i++evIn W H T z l q) (k:Int)
      rw [List.length_append,evIn_len] at h2
      omega
     have a0:=(HKX.out _ _ wr AQ.out).cell 0
     have a1:=(HKX.out _ _ wr AQ.out).cell 1
     have a2:=(HKX.out _ _ wr AQ.out).cell 2
     rw [hPE]
     clear hPE hpeb e0 hnx hxb hqll
     go_wp2_with fail
     refine (inn_any W H T X Y (q:Int) _).mono ?_
     rintro e w9 ⟨rfl,hb9⟩
     have HTO:=hd_ (to_any w1 ga N k f ws (nodeN W H T 1 X Y (q:Int)) w9 (AQ.out.keep hb9) hk hlw)
     have HPT:=hd_ (fun (A:Option Addr) (c:Nat)=>PQ.out.to_ hk A c (nodeN W H T 1 X Y (q:Int)))
     clear hb9 a0 a1 a2 e1
     go_wp2_with fail
     refine HTO.out.mono ?_
     rintro e w10 ⟨rfl,f',A3,c3,ha⟩
     have AT:=hd_ ha
     clear ha HTO
     go_wp2_with fail
     go_roundw
     case rel=>exact ⟨q+1,f',_,by omega,by go_num,AT.out,hd_ (by rw [HNX.out,<- List.append_assoc];exact HPT.out A3 c3)⟩
     case measure=>simp [intOf];omega
   obtain rfl:pb=i:=by omega
   have hlt:¬ (pb:Int)<(pb:Int):=by omega
   have b2:=(HKY.out _ _ wr AQ0.out).cell 2
   go_wp2_with fail
   clear hlt b2
   go_loopw [122] (fun v122 wx=>∃ (q:Nat) (f:Nat->Nat) (ws:List WM),q<=po∧v122=.int .i64 (q:Int)∧AW w1 ga N f ws wx∧Hid (PWR N F (evTo W H T P S pb++evOut W H T P S q) ws)) (fun v122 _=>po-(intOf v122).toNat)
   case atStart=>exact ⟨0,f,ws,by omega,rfl,AQ0.out,hd_ (by simp only [evOut,List.range_zero,List.map_nil,List.append_nil];exact PQ.out)⟩
   case round =>
    clear AQ0 PQ
    obtain ⟨q,f,ws,hq,rfl,ha,PQ⟩:=hrel
    have AQ:=hd_ ha
    clear ha
    by_cases hqq:q<po
    case neg =>
     obtain rfl:po=q:=by omega
     have hlt:¬ (po:Int)<(po:Int):=by omega
     have b0:=AQ.out.box.cell 0
     have HDE:=hd_ (delW_any ga N ws wr AQ.out.all AQ.out.len (by omega))
     go_wp2_with fail
     refine HDE.out.mono ?_
     rintro e w9 ⟨m,rfl,hm,hch,zs,hbz,hzl⟩
     go_wp2_with fail
     rw [<- HRR.out]
     have hB:Below w.heap.size w w9:=hch.below (bt_ Q1.out AQ.out.below) (bt_ Q1.out AQ.out.below).size (fun k hk=>by have:=AQ.out.lo;have:=Q1.out.size;omega)
     have hmn:m<=N:=by have:=congrArg List.length (show (wcells (fltW ws)++zs)=wcells (fltW ws)++zs from rfl);rw [List.length_append,wcells_len,hm] at hzl;omega
     refine .inr ⟨HX.out,some ⟨ga,0,none⟩,N,fltW ws,by rw [hm];rfl,hB,⟨rd_of_pre hbz 2 _ _ (wcells_len _) (by rw [hm];exact hmn),fun x hx=>?_⟩,?_⟩
     ·obtain ⟨k,hk,hkx⟩:=List.mem_iff_getElem.1 ((List.mem_filter.1 hx).1)
      have hr:=(AQ.out.rows k x (by rw [List.getElem?_eq_getElem hk,hkx])).1
      exact Rd.of_own (hch.own hr (fun g' e hk=>own_other hr AQ.out.all (by decide) (by rw [e,hk])))
     ·have hp:=PQ.out
      have hE:evTo W H T P S pb++evOut W H T P S po=allEv W H T P S:=by unfold allEv;rw [HPB.out,HPO.out]
      rw [hE] at hp
      rw [hp.done (fun n hn=>FQ.out n (by omega))]
      unfold wiresP
      rw [HPB.out,HPI.out,show pI.toNat+pb=N by omega]
    have hqq':(q:Int)<(po:Int):=by omega
    have hqo:q<no:=by omega
    have hql:q<P.outs.length:=by rw [HPO.out];exact hqq
    obtain ⟨pe,hPE,hpeb,e0⟩:=HI.out.outs.int (k:=q) (by rw [HPO.out];exact hqq)
    have hQ:=bt_ Q1.out AQ.out.below
    have e1:=(hQ.cell (p:=pe.add q) (by rw [add_block];exact hpeb)).trans e0
    obtain ⟨ps,hPS,hpsb,s0⟩:=HSI.out.o.int (k:=q) (by rw [HNO.out];exact hqo)
    have s1:=(hQ.cell (p:=ps.add q) (by rw [add_block];exact hpsb)).trans s0
    have hxb:=any_bad_no HM.out.2.2.2.2 (P.outs.getD q 0) (by rw [List.getD_eq_getElem?_getD,List.getElem?_eq_getElem hql];exact List.getElem_mem hql)
    have hnx:=evOut_next W H T P S q
    have HNX:=hd_ hnx
    unfold PK.N at hxb
    rw [HPI.out,HPB.out] at hxb
    generalize P.outs.getD q 0=x at e1 HNX hxb
    generalize S.so.getD q 0=y at s1 HNX
    obtain ⟨k,rfl⟩:∃ k:Nat,x=(k:Int):=⟨x.toNat,by omega⟩
    have hk:k<ws.length:=by have:=AQ.out.len;omega
    have hlw:ws[k].2.2.2.length<=1000000:=by
     have h1:=congrArg Prod.snd (PQ.out.get hk)
     simp only at h1
     rw [h1]
     have h2:=atW_len (evTo W H T P S pb++evOut W H T P S q) (k:Int)
     have hlE:=evTo_len W H T S (fun b hb=>(HM.out.2.2.2.1 b hb).1) pb
     rw [List.length_append,evOut_len] at h2
     omega
    have a0:=(HKX.out _ _ wr AQ.out).cell 0
    have a1:=(HKX.out _ _ wr AQ.out).cell 1
    have a2:=(HKX.out _ _ wr AQ.out).cell 2
    have hZZ:=HKZ.out _ _ wr AQ.out
    rw [hPS] at hZZ
    have c2:=hZZ.cell 2
    rw [hPE]
    clear hPE hpeb e0 hQ hPS hpsb s0 hnx hZZ hql hxb
    go_wp2_with fail
    refine wp_region_still_in (by kernel_rfl) (by kernel_rfl) fun St9 ne9 V9 hV9 hS9=>?_
    have qa0:=still_cell hV9 a0
    have qa1:=still_cell hV9 a1
    have qa2:=still_cell hV9 a2
    have qc2:=still_cell hV9 c2
    have qs1:=still_cell hV9 s1
    repeat (first|go_big_quiet_step ((go_at_call 47;exact Calls.still hV9 hS9 (pad_any W H T y _)))|quiet_step ((go_at_call 47;exact Calls.still hV9 hS9 (pad_any W H T y _))))
    refine wpQuiet_nil ?_
    intro _ hw9
    obtain ⟨s9,rfl⟩:=hw9
    have hb9:=hV9 s9
    clear qa0 qa1 qa2 qc2 qs1 hS9
    generalize V9 s9=w9 at hb9 ⊢
    clear hV9 s9 V9 ne9 St9
    have HTO:=hd_ (to_any w1 ga N k f ws (nodeN W H T 2 y 0 0) w9 (AQ.out.keep hb9) hk hlw)
    have HPT:=hd_ (fun (A:Option Addr) (c:Nat)=>PQ.out.to_ hk A c (nodeN W H T 2 y 0 0))
    clear hb9 a0 a1 a2 c2 s1 e1
    go_wp2_with fail
    refine HTO.out.mono ?_
    rintro e w10 ⟨rfl,f',A3,c3,ha⟩
    have AT:=hd_ ha
    clear ha HTO
    go_wp2_with fail
    go_roundw
    case rel=>exact ⟨q+1,f',_,by omega,by go_num,AT.out,hd_ (by rw [HNX.out,<- List.append_assoc];exact HPT.out A3 c3)⟩
    case measure=>simp [intOf];omega
end Go.Proofs.YtmkiphadkmodnaaGreat
namespace Go.Proofs.YtmkiphadkmodnaaGreat
open Go.RowKit Go.Maps
structure Mk0 (w:World) (W H T pI:Int) (AB AO SB SI SO:Option Addr) (pb cB po cO nb dB ni dI no dO:Nat) (wx:World):Prop where
 a:Blk wx w.heap.size 23 #[.int .i64 W,.int .i64 H,.int .i64 T]
 p:Blk wx (w.heap.size+1) 27 #[.int .i64 pI,.slice AB pb cB,.slice AO po cO]
 s:Blk wx (w.heap.size+1+1) 29 #[.slice SB nb dB,.slice SI ni dI,.slice SO no dO]
 r:Blk wx (w.heap.size+1+1+1) 37 #[.int .i64 0,.int .i64 0,.int .i64 0,.slice none 0 0,.slice none 0 0,.slice none 0 0,.slice none 0 0]
 q:Below w.heap.size w wx
section
variable {w : World} {W H T pI : Int} {AB AO SB SI SO : Option Addr} {pb cB po cO nb dB ni dI no dO : Nat} {wx wy : World}
theorem Mk0.keep (h:Mk0 w W H T pI AB AO SB SI SO pb cB po cO nb dB ni dI no dO wx) (hb:Below wx.heap.size wx wy):Mk0 w W H T pI AB AO SB SI SO pb cB po cO nb dB ni dI no dO wy :=
 ⟨h.a.keep hb,h.p.keep hb,h.s.keep hb,h.r.keep hb,bt_ h.q hb⟩
theorem Mk0.chg (h:Mk0 w W H T pI AB AO SB SI SO pb cB po cO nb dB ni dI no dO wx) {X:Nat->Prop} (hc:Chg wx wy X) (hX:∀ k,X k->w.heap.size+1+1+1<k):Mk0 w W H T pI AB AO SB SI SO pb cB po cO nb dB ni dI no dO wy :=
 ⟨hc.blk h.a (fun e=>by have:=hX _ e;omega),hc.blk h.p (fun e=>by have:=hX _ e;omega),hc.blk h.s (fun e=>by have:=hX _ e;omega),hc.blk h.r (fun e=>by have:=hX _ e;omega),hc.below h.q h.q.size (fun k hk=>by have:=hX k hk;omega)⟩
theorem Mk0.start (w:World) (W H T pI:Int) (AB AO SB SI SO:Option Addr) (pb cB po cO nb dB ni dI no dO:Nat):Mk0 w W H T pI AB AO SB SI SO pb cB po cO nb dB ni dI no dO ((((w.alloc (.cells #[.int .i64 W,.int .i64 H,.int .i64 T] 23)).alloc (.cells #[.int .i64 pI,.slice AB pb cB,.slice AO po cO] 27)).alloc (.cells #[.slice SB nb dB,.slice SI ni dI,.slice SO no dO] 29)).alloc (.cells #[.int .i64 0,.int .i64 0,.int .i64 0,.slice none 0 0,.slice none 0 0,.slice none 0 0,.slice none 0 0] 37)):=by
 refine ⟨(((Blk.made w _ _).alloc _).alloc _).alloc _,((blk_made1 w _ _ _).alloc _).alloc _,Blk.alloc ?_ _,?_,bt_ (bt_ (bt_ (bn_ w _) (bn_ _ _)) (bn_ _ _)) (bn_ _ _)⟩
 ·have h:=Blk.made ((w.alloc (.cells #[.int .i64 W,.int .i64 H,.int .i64 T] 23)).alloc (.cells #[.int .i64 pI,.slice AB pb cB,.slice AO po cO] 27)) 29 #[.slice SB nb dB,.slice SI ni dI,.slice SO no dO]
  rw [World.size_alloc,World.size_alloc] at h
  exact h
 ·have h:=Blk.made (((w.alloc (.cells #[.int .i64 W,.int .i64 H,.int .i64 T] 23)).alloc (.cells #[.int .i64 pI,.slice AB pb cB,.slice AO po cO] 27)).alloc (.cells #[.slice SB nb dB,.slice SI ni dI,.slice SO no dO] 29)) 37 #[.int .i64 0,.int .i64 0,.int .i64 0,.slice none 0 0,.slice none 0 0,.slice none 0 0,.slice none 0 0]
  rw [World.size_alloc,World.size_alloc,World.size_alloc] at h
  exact h
end
theorem blk7 {w:World} {g:Nat} {t:TypeId} {c0 c1 c2 c3 c4 c5 c6:Value} (h:Blk w g t #[c0,c1,c2,c3,c4,c5,c6]) (v0 v1 v2 v3 v4 v5 v6:Value) :
  Blk (((((((w.setCell ⟨g,0,none⟩ v0).setCell ⟨g,1,none⟩ v1).setCell ⟨g,2,none⟩ v2).setCell ⟨g,3,none⟩ v3).setCell ⟨g,4,none⟩ v4).setCell ⟨g,5,none⟩ v5).setCell ⟨g,6,none⟩ v6) g t #[v0,v1,v2,v3,v4,v5,v6]:=by
 have:=((((((h.put 0 v0).put 1 v1).put 2 v2).put 3 v3).put 4 v4).put 5 v5).put 6 v6
 simpa only [List.setIfInBounds_toArray,List.set_cons_zero,List.set_cons_succ] using this
theorem chg7 (w:World) (g:Nat) (v0 v1 v2 v3 v4 v5 v6:Value) :
  Chg w (((((((w.setCell ⟨g,0,none⟩ v0).setCell ⟨g,1,none⟩ v1).setCell ⟨g,2,none⟩ v2).setCell ⟨g,3,none⟩ v3).setCell ⟨g,4,none⟩ v4).setCell ⟨g,5,none⟩ v5).setCell ⟨g,6,none⟩ v6) (fun k=>k=g) :=
 ((((((Chg.set w g 0 v0).setSame v1).setSame v2).setSame v3).setSame v4).setSame v5).setSame v6
theorem cells7 {w:World} {g:Nat} {t:TypeId} {c0 c1 c2 c3 c4 c5 c6:Value} (h:Blk w g t #[c0,c1,c2,c3,c4,c5,c6]):(w.cell? ⟨g,0,none⟩=some c0∧w.cell? ⟨g,1,none⟩=some c1∧w.cell? ⟨g,2,none⟩=some c2∧w.cell? ⟨g,3,none⟩=some c3∧w.cell? ⟨g,4,none⟩=some c4∧w.cell? ⟨g,5,none⟩=some c5∧w.cell? ⟨g,6,none⟩=some c6) ∧
  (w.frozen? ⟨g,0,none⟩=false∧w.frozen? ⟨g,1,none⟩=false∧w.frozen? ⟨g,2,none⟩=false∧w.frozen? ⟨g,3,none⟩=false∧w.frozen? ⟨g,4,none⟩=false∧w.frozen? ⟨g,5,none⟩=false∧w.frozen? ⟨g,6,none⟩=false) :=
 ⟨⟨h.cell 0,h.cell 1,h.cell 2,h.cell 3,h.cell 4,h.cell 5,h.cell 6⟩,h.free 0,h.free 1,h.free 2,h.free 3,h.free 4,h.free 5,h.free 6⟩
theorem results_89 {fn:Func} (h:fn.results=#[.cell 8 37,.tmp 9]) (tmps:Array Value) (w:World) (g:Nat) (cs:Array Value) (hs:cs.size=7) (hp:tmps.getD 8 undef=.pointer (some ⟨g,0,none⟩)) (hg:Blk w g 37 cs) :
  (results fn tmps).run Tryz.prog w=.ok (.tuple #[.agg cs,tmps.getD 9 undef]) w:=by
 have hp':tmps[8]?.getD undef=.pointer (some ⟨g,0,none⟩):=by simpa using hp
 have hi:(Tryz.prog.info? 37).map (·.size)=some cs.size:=by rw [hs];kernel_rfl
 simp [results,h,hp',asAddr,run_loadVar_row w g 37 37 cs (0,0) _ hg Tryz.underlying37 rfl hi]
theorem mk_end {fn:Func} (hres:fn.results=#[.cell 8 37,.tmp 9]) {W H T:Int} {P:PK} {S:SPT} {wy:List (List Int)} {w wx:World} {g:Nat} {c0 c1 c2 c3 c4 c5 c6:Value} (C:Cfg) (x:Int) (tmps:Array Value)
  (hR:Blk wx g 37 #[c0,c1,c2,c3,c4,c5,c6]) (hq:Below w.heap.size w wx) (hg:w.heap.size<=g) (hin:∀ W':World,Chg wx W' (fun k=>k=g)->C.In W') (hM:MkR W H T P S wy C x)
  (h8:tmps.getD 8 undef=.pointer (some ⟨g,0,none⟩)) (h9:tmps.getD 9 undef=.int .i64 x) :
  bodyPost Tryz.prog fn (MkOut W H T P S wy w) .ret { tmps:=tmps,defers:=[] } (((((((wx.setCell ⟨g,0,none⟩ (.int .i64 C.W)).setCell ⟨g,1,none⟩ (.int .i64 C.H)).setCell ⟨g,2,none⟩ (.int .i64 C.T)).setCell ⟨g,3,none⟩ (.slice C.AT C.tiles.length C.cT)).setCell ⟨g,4,none⟩ (.slice C.AO C.on.length C.cO)).setCell ⟨g,5,none⟩ (.slice C.AI C.ins.length C.cI)).setCell ⟨g,6,none⟩ (.slice C.AU C.outs.length C.cU)):=by
 have hz:=blk7 hR (.int .i64 C.W) (.int .i64 C.H) (.int .i64 C.T) (.slice C.AT C.tiles.length C.cT) (.slice C.AO C.on.length C.cO) (.slice C.AI C.ins.length C.cI) (.slice C.AU C.outs.length C.cU)
 have hr:=results_89 hres tmps _ _ _ rfl h8 hz
 rw [h9] at hr
 have hc:=chg7 wx g (.int .i64 C.W) (.int .i64 C.H) (.int .i64 C.T) (.slice C.AT C.tiles.length C.cT) (.slice C.AO C.on.length C.cO) (.slice C.AI C.ins.length C.cI) (.slice C.AU C.outs.length C.cU)
 exact bodyPost_ret hr rfl ⟨C,x,rfl,hc.below hq hq.size (fun k hk=>by omega),hin _ hc,hM⟩
theorem tile_info9:(Tryz.prog.info? 65).map (fun i=>(i.zero,i.size,i.bytes))=some (some (.agg #[.int .i64 0,.bool false,.bool false]),3,16):=by kernel_rfl
theorem tile_make (w:World) (n:Nat) (hn:n<=100000):(Instr.makeSlice 34 (.int .i64 (n:Int)) (.int .i64 (n:Int))).run Tryz.prog w=.ok (.slice (some ⟨w.heap.size,0,none⟩) n n) (w.alloc (.cells (tiles3 (List.replicate n (0,false,false))).toArray 65)):=by
 obtain ⟨i0,hi0,hz0,hz1,hz2⟩:=info_parts tile_info9
 have h:=run_make (P:=Tryz.prog) w 34 65 i0 _ Tryz.underlying34 hi0 hz0 .i64 .i64 (n:Int) (n:Int) (by omega) (Int.le_refl _) (by rw [hz2];omega) (by omega)
 rw [h,hz1]
 simp only [Int.toNat_natCast]
 rw [show (Value.agg #[Value.int .i64 0,.bool false,.bool false]).cells=#[.int .i64 0,.bool false,.bool false] from rfl]
 rw [<- tiles3_none n]
theorem bool_make (w:World) (n:Nat) (hn:n<=10000000):(Instr.makeSlice 35 (.int .i64 (n:Int)) (.int .i64 (n:Int))).run Tryz.prog w=.ok (.slice (some ⟨w.heap.size,0,none⟩) n n) (w.alloc (.cells (bools (List.replicate n false)).toArray 4)):=by
 obtain ⟨i0,hi0,hz0,hz1,hz2⟩:=info_parts bool_infoA
 have h:=run_make (P:=Tryz.prog) w 35 4 i0 _ Tryz.underlying35 hi0 hz0 .i64 .i64 (n:Int) (n:Int) (by omega) (Int.le_refl _) (by rw [hz2];omega) (by omega)
 rw [h,hz1]
 simp only [Int.toNat_natCast]
 rw [show (Value.bool false).cells=#[.bool false] from rfl,show bools (List.replicate n false)=List.replicate n (.bool false) by simp [bools],<- made_list (.bool false) n]
structure MkC (w5:World) (W H T:Int) (gc g1 g2:Nat) (A3 A4:Option Addr) (c3 c4 nt ne ni no:Nat) (tl:List TL) (on:List Bool) (si so:List Int) (wx:World):Prop where
 bel:Below w5.heap.size w5 wx
 t:w5.heap.size<=g1∧TilesB wx g1 tl
 o:w5.heap.size<=g2∧BitsB wx g2 on
 i:wx.ownsRow w5.heap.size 3 1 (.slice A3 ni c3) ni (ints si)
 u:wx.ownsRow w5.heap.size 3 1 (.slice A4 no c4) no (ints so)
 c:w5.heap.size<=gc∧Blk wx gc 37 #[.int .i64 W,.int .i64 H,.int .i64 T,.slice (some ⟨g1,0,none⟩) nt nt,.slice (some ⟨g2,0,none⟩) ne ne,.slice A3 ni c3,.slice A4 no c4]
structure MkS (w5:World) (W H T:Int) (nt ne ni no:Nat) (si so:List Int) (m6 m9 m17:Option Nat) (m12 m15:Option (Option Addr × Nat)) (wx:World):Prop where
 bel:Below w5.heap.size w5 wx
 t:∀ g,m6=some g->w5.heap.size<=g∧TilesB wx g (List.replicate nt (0,false,false))
 o:∀ g,m9=some g->w5.heap.size<=g∧BitsB wx g (List.replicate ne false)
 c:∀ g,m17=some g->w5.heap.size<=g∧Blk wx g 37 #[.int .i64 0,.int .i64 0,.int .i64 0,.slice none 0 0,.slice none 0 0,.slice none 0 0,.slice none 0 0]
 i:∀ x,m12=some x->wx.ownsRow w5.heap.size 3 1 (.slice x.1 ni x.2) ni (ints si)
 u:∀ x,m15=some x->wx.ownsRow w5.heap.size 3 1 (.slice x.1 no x.2) no (ints so)
section
variable {w5 wx wy : World} {W H T : Int} {nt ne ni no : Nat} {si so : List Int} {m6 m9 m17 : Option Nat} {m12 m15 : Option (Option Addr × Nat)}
theorem MkS.keep (h:MkS w5 W H T nt ne ni no si so m6 m9 m17 m12 m15 wx) (hb:Below wx.heap.size wx wy):MkS w5 W H T nt ne ni no si so m6 m9 m17 m12 m15 wy :=
 ⟨bt_ h.bel hb,fun g e=>⟨(h.t g e).1,Blk.keep (h.t g e).2 hb⟩,fun g e=>⟨(h.o g e).1,Blk.keep (h.o g e).2 hb⟩,fun g e=>⟨(h.c g e).1,(h.c g e).2.keep hb⟩,fun x e=>own_keep (h.i x e) hb,fun x e=>own_keep (h.u x e) hb⟩
theorem MkS.start (w5:World) (W H T:Int) (nt ne ni no:Nat) (si so:List Int):MkS w5 W H T nt ne ni no si so none none none none none w5.drew :=
 ⟨bd_,fun g e=>(by cases e),fun g e=>(by cases e),fun g e=>(by cases e),fun g e=>(by cases e),fun g e=>(by cases e)⟩
theorem MkS.mk6 (h:MkS w5 W H T nt ne ni no si so none m9 m17 m12 m15 wx) (hn:nt<=100000):∃ w' g,(Instr.makeSlice 34 (.int .i64 (nt:Int)) (.int .i64 (nt:Int))).run Tryz.prog wx=.ok (.slice (some ⟨g,0,none⟩) nt nt) w'∧MkS w5 W H T nt ne ni no si so (some g) m9 m17 m12 m15 w':=by
 have k:=h.keep (bn_ wx (.cells (tiles3 (List.replicate nt (0,false,false))).toArray 65))
 exact ⟨_,_,tile_make wx nt hn,k.bel,fun g e=>by obtain rfl:=Option.some.inj e;exact ⟨h.bel.size,Blk.made _ _ _⟩,k.o,k.c,k.i,k.u⟩
theorem MkS.mk9 (h:MkS w5 W H T nt ne ni no si so m6 none m17 m12 m15 wx) (hn:ne<=10000000):∃ w' g,(Instr.makeSlice 35 (.int .i64 (ne:Int)) (.int .i64 (ne:Int))).run Tryz.prog wx=.ok (.slice (some ⟨g,0,none⟩) ne ne) w'∧MkS w5 W H T nt ne ni no si so m6 (some g) m17 m12 m15 w':=by
 have k:=h.keep (bn_ wx (.cells (bools (List.replicate ne false)).toArray 4))
 exact ⟨_,_,bool_make wx ne hn,k.bel,k.t,fun g e=>by obtain rfl:=Option.some.inj e;exact ⟨h.bel.size,Blk.made _ _ _⟩,k.c,k.i,k.u⟩
theorem MkS.al17 (h:MkS w5 W H T nt ne ni no si so m6 m9 none m12 m15 wx):∃ w' g,wx.alloc (.cells #[.int .i64 0,.int .i64 0,.int .i64 0,.slice none 0 0,.slice none 0 0,.slice none 0 0,.slice none 0 0] 37)=w'∧wx.heap.size=g∧MkS w5 W H T nt ne ni no si so m6 m9 (some g) m12 m15 w':=by
 have k:=h.keep (bn_ wx (.cells #[.int .i64 0,.int .i64 0,.int .i64 0,.slice none 0 0,.slice none 0 0,.slice none 0 0,.slice none 0 0] 37))
 exact ⟨_,_,rfl,rfl,k.bel,k.t,k.o,fun g e=>by obtain rfl:=Option.some.inj e;exact ⟨h.bel.size,Blk.made _ _ _⟩,k.i,k.u⟩
theorem MkS.ad12 (h:MkS w5 W H T nt ne ni no si so m6 m9 m17 none m15 wx) {A:Option Addr} {c:Nat} (hb:Below wx.heap.size wx wy) (ho:wy.ownsRow wx.heap.size 3 1 (.slice A ni c) ni (ints si)):MkS w5 W H T nt ne ni no si so m6 m9 m17 (some (A,c)) m15 wy:=by
 have k:=h.keep hb
 exact ⟨k.bel,k.t,k.o,k.c,fun x e=>by obtain rfl:=Option.some.inj e;exact own_down ho h.bel.size,k.u⟩
theorem MkS.ad15 (h:MkS w5 W H T nt ne ni no si so m6 m9 m17 m12 none wx) {A:Option Addr} {c:Nat} (hb:Below wx.heap.size wx wy) (ho:wy.ownsRow wx.heap.size 3 1 (.slice A no c) no (ints so)):MkS w5 W H T nt ne ni no si so m6 m9 m17 m12 (some (A,c)) wy:=by
 have k:=h.keep hb
 exact ⟨k.bel,k.t,k.o,k.c,k.i,fun x e=>by obtain rfl:=Option.some.inj e;exact own_down ho h.bel.size⟩
theorem MkS.fin {g1 g2 gc c3 c4:Nat} {A3 A4:Option Addr} (h:MkS w5 W H T nt ne ni no si so (some g1) (some g2) (some gc) (some (A3,c3)) (some (A4,c4)) wx) :
  MkC w5 W H T gc g1 g2 A3 A4 c3 c4 nt ne ni no (List.replicate nt (0,false,false)) (List.replicate ne false) si so (((((((wx.setCell ⟨gc,0,none⟩ (.int .i64 W)).setCell ⟨gc,1,none⟩ (.int .i64 H)).setCell ⟨gc,2,none⟩ (.int .i64 T)).setCell ⟨gc,3,none⟩ (.slice (some ⟨g1,0,none⟩) nt nt)).setCell ⟨gc,4,none⟩ (.slice (some ⟨g2,0,none⟩) ne ne)).setCell ⟨gc,5,none⟩ (.slice A3 ni c3)).setCell ⟨gc,6,none⟩ (.slice A4 no c4)):=by
 have hc:=chg7 wx gc (.int .i64 W) (.int .i64 H) (.int .i64 T) (.slice (some ⟨g1,0,none⟩) nt nt) (.slice (some ⟨g2,0,none⟩) ne ne) (.slice A3 ni c3) (.slice A4 no c4)
 obtain ⟨l1,t1⟩:=h.t g1 rfl
 obtain ⟨l2,t2⟩:=h.o g2 rfl
 obtain ⟨l3,t3⟩:=h.c gc rfl
 exact ⟨hc.below h.bel h.bel.size (fun k hk=>by omega),⟨l1,hc.blk t1 (Blk.other t1 t3 (by decide))⟩,⟨l2,hc.blk t2 (Blk.other t2 t3 (by decide))⟩,hc.own (h.i _ rfl) (fun g e hk=>own_other (h.i _ rfl) t3 (by decide) (by rw [e,hk])),hc.own (h.u _ rfl) (fun g e hk=>own_other (h.u _ rfl) t3 (by decide) (by rw [e,hk])),l3,blk7 t3 _ _ _ _ _ _ _⟩
end
end Go.Proofs.YtmkiphadkmodnaaGreat
