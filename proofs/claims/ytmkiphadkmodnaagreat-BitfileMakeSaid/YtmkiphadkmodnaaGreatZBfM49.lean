/- BfM, 49 -/
import Derived.Test.YtmkiphadkmodnaaGreatZBfM47
import Derived.Test.YtmkiphadkmodnaaGreatZBfM0
set_option linter.all false
set_option maxRecDepth 100000
set_option maxHeartbeats 8000000
namespace Go.Proofs.YtmkiphadkmodnaaGreat
open Go.RowKit Go.Maps
abbrev oRk0:Oper:=⟨some 74,.move (.tmp 16),34,"ref.go:100",#[],none⟩
abbrev oRk1:Oper:=⟨some 75,.fieldAddr 29 (.tmp 6) 0,0,"ref.go:100",#[],none⟩
abbrev oRk2:Oper:=⟨some 76,.load 25 (.tmp 75),25,"ref.go:100",#[⟨1,.data⟩],none⟩
abbrev oRk3:Oper:=⟨some 77,.move (.tmp 17),3,"ref.go:100",#[],none⟩
abbrev oRk4:Oper:=⟨some 78,.indexAddr 25 (.tmp 76) (.tmp 77),0,"ref.go:100",#[⟨2,.data⟩,⟨3,.data⟩],none⟩
abbrev oRk5:Oper:=⟨some 79,.load 3 (.tmp 78),3,"ref.go:100",#[⟨4,.data⟩],none⟩
abbrev oRk6:Oper:=⟨some 80,.load 62 (.tmp 18),62,"ref.go:100",#[],none⟩
abbrev oRk7:Oper:=⟨some 81,.call { callee:=.value (.func 27),args:=#[.tmp 80],argTypes:=#[62] },3,"ref.go:100",#[⟨6,.data⟩],none⟩
abbrev oRk8:Oper:=⟨some 82,.fieldAddr 62 (.tmp 18) 2,0,"ref.go:100",#[],none⟩
abbrev oRk9:Oper:=⟨some 83,.load 4 (.tmp 82),4,"ref.go:100",#[⟨8,.data⟩],none⟩
abbrev oRk10:Oper:=⟨some 84,.fieldAddr 62 (.tmp 18) 3,0,"ref.go:100",#[],none⟩
abbrev oRk11:Oper:=⟨some 85,.load 4 (.tmp 84),4,"ref.go:100",#[⟨10,.data⟩],none⟩
abbrev oRk12:Oper:=⟨some 86,.build 65 #[(0,.tmp 81),(1,.tmp 83),(2,.tmp 85)],65,"ref.go:100",#[⟨7,.data⟩,⟨9,.data⟩,⟨11,.data⟩],none⟩
abbrev oRk13:Oper:=⟨some 87,.indexAddr 34 (.tmp 74) (.tmp 79),0,"ref.go:100",#[⟨0,.data⟩,⟨5,.data⟩,⟨0,.phase⟩,⟨1,.phase⟩,⟨2,.phase⟩,⟨3,.phase⟩,⟨4,.phase⟩,⟨5,.phase⟩,⟨6,.phase⟩,⟨7,.phase⟩,⟨8,.phase⟩,⟨9,.phase⟩,⟨10,.phase⟩,⟨11,.phase⟩,⟨12,.phase⟩],none⟩
abbrev oRk14:Oper:=⟨none,.store 65 (.tmp 87) (.tmp 86),0,"ref.go:100",#[⟨13,.data⟩,⟨12,.data⟩,⟨7,.chain⟩,⟨0,.phase⟩,⟨1,.phase⟩,⟨2,.phase⟩,⟨3,.phase⟩,⟨4,.phase⟩,⟨5,.phase⟩,⟨6,.phase⟩,⟨7,.phase⟩,⟨8,.phase⟩,⟨9,.phase⟩,⟨10,.phase⟩,⟨11,.phase⟩,⟨12,.phase⟩],none⟩
theorem rmake31_any (W H T:Int) (P:PK) (S:SPT) (B:Option Addr) (cB:Nat) (ls:List SL) (w:World) (hin:P.In w) (hf:P.fit) (hpo:P.outs.length<=10000) (hsi:S.In w) (hsf:S.fit) (hls:SLs w B cB ls) (hlb:∀ x ∈ ls,x.2.2.length<=100000) (hl5:ls.length<=100000) (hsum:wSum (wayl ls)<=1000000) :
  Calls Tryz.prog 8 #[.agg #[.int .i64 W,.int .i64 H,.int .i64 T],.agg #[.int .i64 P.I,.slice P.AB P.bs.length P.cB,.slice P.AO P.outs.length P.cO],.agg #[.slice S.AB S.sb.length S.cB,.slice S.AI S.si.length S.cI,.slice S.AO S.so.length S.cO],.slice B ls.length cB] w (MkOut W H T P S (wayl ls) w):=by
 have M0:=hd_ (Mk0.start w W H T P.I P.AB P.AO S.AB S.AI S.AO P.bs.length P.cB P.outs.length P.cO S.sb.length S.cB S.si.length S.cI S.so.length S.cO)
 have HI:=hd_ hin
 have HF:=hd_ hf
 have HSI:=hd_ hsi
 have HSF:=hd_ hsf
 have HLS:=hd_ hls
 have HLB:=hd_ hlb
 have HSUM:=hd_ hsum
 obtain ⟨RR,hRR⟩:∃ RR:Ending->World->Prop,MkOut W H T P S (wayl ls) w=RR:=⟨_,rfl⟩
 have HRR:=hd_ hRR
 rw [hRR]
 have HPL:=hd_ (fun (W':World) (hW:Below w.heap.size w W')=>rplace29_any W H T P S W' (hin.later hW) hf (hsi.later hW) hsf)
 have HWI:=hd_ (fun (W':World) (hW:Below w.heap.size w W')=>rwires_any W H T P S W' (hin.later hW) hf (hsi.later hW) hsf)
 have HPO:=hd_ hpo
 obtain ⟨nb,hnb⟩:∃ n,S.sb.length=n:=⟨_,rfl⟩
 obtain ⟨ni,hni⟩:∃ n,S.si.length=n:=⟨_,rfl⟩
 obtain ⟨no,hno⟩:∃ n,S.so.length=n:=⟨_,rfl⟩
 obtain ⟨pb,hpb⟩:∃ n,P.bs.length=n:=⟨_,rfl⟩
 obtain ⟨po,hpo'⟩:∃ n,P.outs.length=n:=⟨_,rfl⟩
 obtain ⟨pI,hpI⟩:∃ n,P.I=n:=⟨_,rfl⟩
 obtain ⟨pAB,hpAB⟩:∃ n,P.AB=n:=⟨_,rfl⟩
 obtain ⟨m,hm⟩:∃ n,ls.length=n:=⟨_,rfl⟩
 have hf1:=hsf.b
 have hf2:=hsf.i
 have hf3:=hsf.o
 simp only [hnb,hni,hno,hpb,hpo',hpI,hpAB,hm] at M0 HPL HWI hf1 hf2 hf3 hl5 ⊢
 have HNB:=hd_ hnb
 have HNI:=hd_ hni
 have HNO:=hd_ hno
 have HPB:=hd_ hpb
 have HPOL:=hd_ hpo'
 have HPI:=hd_ hpI
 have HPAB:=hd_ hpAB
 have HM:=hd_ hm
 clear hnb hni hno hpb hpo' hpI hpAB hm hin hf hsi hsf hls hlb hRR hsum hpo
 go_enter Tryz.func8,Tryz.ntmps8
 go_upto_region 2 with (fail)
 have hsz0:((((w.alloc (.cells #[.int .i64 W,.int .i64 H,.int .i64 T] 23)).alloc (.cells #[.int .i64 pI,.slice pAB pb P.cB,.slice P.AO po P.cO] 27)).alloc (.cells #[.slice S.AB nb S.cB,.slice S.AI ni S.cI,.slice S.AO no S.cO] 29)).alloc (.cells #[.int .i64 0,.int .i64 0,.int .i64 0,.slice none 0 0,.slice none 0 0,.slice none 0 0,.slice none 0 0] 37)).heap.size=w.heap.size+1+1+1+1:=by rw [World.size_alloc,World.size_alloc,World.size_alloc,World.size_alloc]
 have N0:=hd_ (Blk.made ((((w.alloc (.cells #[.int .i64 W,.int .i64 H,.int .i64 T] 23)).alloc (.cells #[.int .i64 pI,.slice pAB pb P.cB,.slice P.AO po P.cO] 27)).alloc (.cells #[.slice S.AB nb S.cB,.slice S.AI ni S.cI,.slice S.AO no S.cO] 29)).alloc (.cells #[.int .i64 0,.int .i64 0,.int .i64 0,.slice none 0 0,.slice none 0 0,.slice none 0 0,.slice none 0 0] 37)) 37 #[.int .i64 0,.int .i64 0,.int .i64 0,.slice none 0 0,.slice none 0 0,.slice none 0 0,.slice none 0 0])
 have M0:=hd_ (M0.out.keep (bn_ _ (.cells #[.int .i64 0,.int .i64 0,.int .i64 0,.slice none 0 0,.slice none 0 0,.slice none 0 0,.slice none 0 0] 37)))
 rw [hsz0] at N0
 clear hsz0
 generalize ((((w.alloc (.cells #[.int .i64 W,.int .i64 H,.int .i64 T] 23)).alloc (.cells #[.int .i64 pI,.slice pAB pb P.cB,.slice P.AO po P.cO] 27)).alloc (.cells #[.slice S.AB nb S.cB,.slice S.AI ni S.cI,.slice S.AO no S.cO] 29)).alloc (.cells #[.int .i64 0,.int .i64 0,.int .i64 0,.slice none 0 0,.slice none 0 0,.slice none 0 0,.slice none 0 0] 37)).alloc (.cells #[.int .i64 0,.int .i64 0,.int .i64 0,.slice none 0 0,.slice none 0 0,.slice none 0 0,.slice none 0 0] 37)=w1 at M0 N0 ⊢
 have a0:=M0.out.a.cell 0
 have a1:=M0.out.a.cell 1
 have a2:=M0.out.a.cell 2
 have b0:=M0.out.p.cell 0
 have b1:=M0.out.p.cell 1
 have b2:=M0.out.p.cell 2
 have c0:=M0.out.s.cell 0
 have c1:=M0.out.s.cell 1
 have c2:=M0.out.s.cell 2
 have HC:=hd_ (HPL.out _ M0.out.q)
 go_wp2_with fail
 refine HC.out.mono ?_
 rintro e w2 ⟨x,rfl,hx,hb⟩
 have M2:=hd_ (M0.out.keep hb)
 have N2:=hd_ (N0.out.keep hb)
 have HX:=hd_ hx
 clear hb hx HC a0 a1 a2 b0 b1 b2 c0 c1 c2 M0 N0 HPL
 by_cases hx0:x=0
 case neg =>
  have hne:(x != 0)=true:=by rw [bne_iff_ne];exact hx0
  have HNE:=hd_ hx0
  obtain ⟨⟨z0,z1,z2,z3,z4,z5,z6⟩,s0,s1,s2,s3,s4,s5,s6⟩:=cells7 M2.out.r
  obtain ⟨⟨k0,k1,k2,k3,k4,k5,k6⟩,-⟩:=cells7 N2.out
  clear hx0
  go_wp2_with fail
  rw [<- HRR.out]
  exact mk_end rfl cfgN x _ M2.out.r M2.out.q (by omega) (fun W' _=>cfgN_in W') (.inl ⟨HNE.out,rfl,.inl HX.out⟩) rfl rfl
 subst hx0
 have a0:=M2.out.a.cell 0
 have a1:=M2.out.a.cell 1
 have a2:=M2.out.a.cell 2
 have b0:=M2.out.p.cell 0
 have b1:=M2.out.p.cell 1
 have b2:=M2.out.p.cell 2
 have c0:=M2.out.s.cell 0
 have c1:=M2.out.s.cell 1
 have c2:=M2.out.s.cell 2
 have HC:=hd_ (HWI.out _ M2.out.q)
 go_wp2_with fail
 refine HC.out.mono ?_
 clear HC a0 a1 a2 b0 b1 b2 c0 c1 c2
 rintro e w3 (⟨y,rfl,hy0,hP,hb⟩|⟨-,A,c,ws,rfl,hb,hwi,hwp⟩)
 ·exact absurd (hP.one HX.out) hy0
 have M3:=hd_ (M2.out.keep hb)
 have N3:=hd_ (N2.out.keep hb)
 obtain ⟨hok,hck,hsp⟩:=PlcR.ok HX.out
 have HOK:=hd_ hok
 have HMAY:=hd_ (ChkR.may hck)
 have HSP:=hd_ hsp
 have HCK:=hd_ (rcheck30_any W H T A B c cB ws ls w3 hwi (wires_fit HMAY.out HPO.out hwp) (HLS.out.later M3.out.q) HLB.out (by rw [HM.out];exact hl5))
 rw [hwp,HM.out] at HCK
 clear hb hwi hwp hok hck hsp M2 N2 HWI
 obtain ⟨d,hd⟩:∃ d,chk30 W H T (wiresP W H T P S) (wayl ls)=d:=⟨_,rfl⟩
 rw [hd] at HCK
 have HD:=hd_ hd
 clear hd
 have a0:=M3.out.a.cell 0
 have a1:=M3.out.a.cell 1
 have a2:=M3.out.a.cell 2
 go_wp2_with fail
 refine HCK.out.mono ?_
 rintro e w4 ⟨rfl,hb⟩
 have M4:=hd_ (M3.out.keep hb)
 have N4:=hd_ (N3.out.keep hb)
 clear hb HCK a0 a1 a2 M3 N3
 by_cases hx0:d=0
 case neg =>
  have hne:(d != 0)=true:=by rw [bne_iff_ne];exact hx0
  have HNE:=hd_ hx0
  obtain ⟨⟨z0,z1,z2,z3,z4,z5,z6⟩,s0,s1,s2,s3,s4,s5,s6⟩:=cells7 M4.out.r
  obtain ⟨⟨k0,k1,k2,k3,k4,k5,k6⟩,-⟩:=cells7 N4.out
  clear hx0
  go_wp2_with fail
  rw [<- HRR.out]
  exact mk_end rfl cfgN d _ M4.out.r M4.out.q (by omega) (fun W' _=>cfgN_in W') (.inl ⟨HNE.out,rfl,.inr ⟨HX.out,HD.out⟩⟩) rfl rfl
 subst hx0
 have a0:=M4.out.a.cell 0
 have a1:=M4.out.a.cell 1
 have a2:=M4.out.a.cell 2
 have c1:=M4.out.s.cell 1
 have c2:=M4.out.s.cell 2
 have hlen:(edgesL W H T).length<=6000000:=by have:=rawL_len HOK.out;unfold edgesL;rw [sortP_length];exact this
 have HRISE:=hd_ (chk30_rise HD.out)
 obtain ⟨ne,hne⟩:∃ ne,(edgesL W H T).length=ne:=⟨_,rfl⟩
 have HNE:=hd_ hne
 rw [hne] at hlen HRISE
 have h1:=HOK.out
 unfold okA at h1
 obtain ⟨nt,hnt⟩:∃ nt:Nat,W*H=(nt:Int):=⟨(W*H).toNat,by have:=Int.mul_nonneg (show 0<=W by omega) (show 0<=H by omega);omega⟩
 have hnt5:nt<=256:=by have:=Int.mul_le_mul (show W<=16 by omega) (show H<=16 by omega) (by omega) (by omega);omega
 have HNT:=hd_ hnt
 have hWH:IntKind.i64.wrap (W*H)=(nt:Int):=by rw [hnt];exact IntWalk.i64_in _ (by omega)
 have hmk6:=fun W'=>tile_make W' nt (by omega)
 clear hne hnt h1 N4
 go_upto_region 12 with (fail)
 have X5:=hd_ (Blk.made w4 37 #[.int .i64 W,.int .i64 H,.int .i64 T,.slice none 0 0,.slice none 0 0,.slice S.AI ni S.cI,.slice S.AO no S.cO])
 have M5:=hd_ (M4.out.keep (bn_ w4 (.cells #[.int .i64 W,.int .i64 H,.int .i64 T,.slice none 0 0,.slice none 0 0,.slice S.AI ni S.cI,.slice S.AO no S.cO] 37)))
 have hgc:w.heap.size+1+1+1<w4.heap.size:=M4.out.r.lt
 clear a0 a1 a2 c1 c2 M4
 generalize w4.alloc (.cells #[.int .i64 W,.int .i64 H,.int .i64 T,.slice none 0 0,.slice none 0 0,.slice S.AI ni S.cI,.slice S.AO no S.cO] 37)=w5 at X5 M5 ⊢
 generalize w4.heap.size=gc at X5 hgc ⊢
 have a0:=M5.out.a.cell 0
 have a1:=M5.out.a.cell 1
 go_upto_region 13 with (fail)
 have X6:=hd_ (X5.out.keep (bn_ w5 (.cells (tiles3 (List.replicate nt (0,false,false))).toArray 65)))
 have M6:=hd_ (M5.out.keep (bn_ w5 (.cells (tiles3 (List.replicate nt (0,false,false))).toArray 65)))
 have T0:=hd_ (show TilesB (w5.alloc (.cells (tiles3 (List.replicate nt (0,false,false))).toArray 65)) w5.heap.size (tilesTo nt P.bs S.sb 0) from Blk.made w5 _ _)
 have hg1:gc<w5.heap.size:=X5.out.lt
 clear a0 a1 X5 M5 hmk6 hWH
 generalize w5.alloc (.cells (tiles3 (List.replicate nt (0,false,false))).toArray 65)=w6 at X6 M6 T0 ⊢
 generalize w5.heap.size=g1 at T0 hg1 ⊢
 have hg1l:g1<w6.heap.size:=T0.out.lt
 have HM6:=hd_ (fun (W':World) (hW:Chg w6 W' (fun k=>k=g1))=>M6.out.chg hW (fun k hk=>by omega))
 have HC6:=hd_ (fun (W':World) (hW:Chg w6 W' (fun k=>k=g1))=>hW.blk X6.out (by omega))
 obtain rfl:pb=nb:=by rw [<- HNB.out,<- HPB.out];exact HSP.out.1.symm
 clear X6 M6
 go_wp2_with fail
 go_loopw [17] (fun v17 wx=>∃ i:Nat,i<=pb∧v17=.int .i64 (i:Int)∧TilesB wx g1 (tilesTo nt P.bs S.sb i)∧Chg w6 wx (fun k=>k=g1)) (fun v17 _=>pb-(intOf v17).toNat)
 case atStart=>exact ⟨0,by omega,rfl,T0.out,Chg.refl _ _⟩
 case round =>
  clear T0
  obtain ⟨i,hi,rfl,ht,hc⟩:=hrel
  have TT:=hd_ ht
  have CC:=hd_ hc
  clear ht hc
  have M7:=hd_ (HM6.out _ CC.out)
  have p1:=M7.out.p.cell 1
  by_cases hin:i<pb
  case pos =>
   have hin':(i:Int)<(pb:Int):=by omega
   have hib:i<P.bs.length:=by rw [HPB.out];exact hin
   have hmem:=List.getElem_mem hib
   have hok:=HMAY.out.2.2.2.1 _ hmem
   have hbl:=hok.1
   have hbt:=hok.2.2.2
   obtain ⟨pa,hpa,-,e0,e1,e2,e3⟩:=(HI.out.later M7.out.q).blocks.block hib
   obtain ⟨sa,hsa,hsab,v0⟩:=HSI.out.b.int (k:=i) (by rw [HNB.out];omega)
   have HSA:=hd_ hsa
   have hsm:S.sb.getD i 0 ∈ S.sb:=by
    have h:i<S.sb.length:=by rw [HNB.out];omega
    rw [List.getD_eq_getElem?_getD,List.getElem?_eq_getElem h]
    exact List.getElem_mem h
   have hsr:=HSP.out.2.2.2.1.1 _ hsm
   rw [HNT.out] at hsr
   have HNX:=hd_ (show tilesTo nt P.bs S.sb (i+1)=(tilesTo nt P.bs S.sb i).set (S.sb.getD i 0).toNat (tlOf P.bs[i]) by rw [<- tlAt_get hib];rfl)
   generalize S.sb.getD i 0=sv at v0 hsr HNX
   obtain ⟨tn,rfl⟩:∃ tn:Nat,sv=(tn:Int):=⟨sv.toNat,by omega⟩
   rw [Int.toNat_natCast] at HNX
   generalize P.bs[i]'hib=b at e0 e1 e2 e3 hbl hbt HNX
   obtain ⟨bk,hbk⟩:∃ n,b.l.length=n:=⟨_,rfl⟩
   have HSPR:=hd_ (fun W'=>rspread_any b W' hbl hbt)
   rw [hbk] at e0 HSPR
   rw [HPAB.out] at hpa
   subst hpa
   have htl:(tilesTo nt P.bs S.sb i).length=nt:=tilesTo_len _ _ _ _
   have HTL:=hd_ htl
   clear hmem hok hbl hbt hbk hsa hsm htl hib
   have htn:(tn:Int)<(nt:Int):=hsr.2
   have htn':tn<nt:=by omega
   clear hsr
   go_upto_region 17 with (fail)
   clear e0 e1 e2 e3 p1
   have BW:=bn_ wr (.cells #[.slice b.A bk b.c,.int .i64 b.t,.bool b.ff,.bool b.it] 62)
   have BB:=hd_ (Blk.made wr 62 #[.slice b.A bk b.c,.int .i64 b.t,.bool b.ff,.bool b.it])
   have T8:=hd_ (show TilesB _ g1 (tilesTo nt P.bs S.sb i) from Blk.keep TT.out BW)
   have C8:=hd_ (CC.out.belowB BW)
   have HGB:=hd_ (show wr.heap.size≠g1 by have:=CC.out.size;omega)
   clear BW TT CC M7
   generalize wr.alloc (.cells #[.slice b.A bk b.c,.int .i64 b.t,.bool b.ff,.bool b.it] 62)=w8 at BB T8 C8 ⊢
   generalize wr.heap.size=gb at BB HGB ⊢
   have HSC:=hd_ (show ∀ W':World,Chg w8 W' (fun k=>k=g1)->(W'.cell? ⟨w.heap.size+1+1,0,none⟩=some (.slice (some sa) pb S.cB)∧W'.cell? (sa.add i)=some (.int .i64 (tn:Int))∧W'.cell? ⟨gb,0,none⟩=some (.slice b.A bk b.c)∧W'.cell? ⟨gb,1,none⟩=some (.int .i64 b.t)∧W'.cell? ⟨gb,2,none⟩=some (.bool b.ff)∧W'.cell? ⟨gb,3,none⟩=some (.bool b.it)) from fun W' hW=>by
    have hB:=hW.blk BB.out HGB.out
    have hc:=(C8.out.trans hW).mono' (Y:=fun k=>k=g1) (fun k hk=>hk.elim id id)
    have hM:=HM6.out _ hc
    have hS:=hM.s.cell 0
    rw [HSA.out] at hS
    exact ⟨hS,(hM.q.cell (by rw [add_block];exact hsab)).trans v0,hB.cell 0,hB.cell 1,hB.cell 2,hB.cell 3⟩)
   refine wp_region_held_drew (S:=(fun w'=>w'.cell? ⟨w.heap.size+1+1,0,none⟩=some (.slice (some sa) pb S.cB)∧w'.cell? (sa.add i)=some (.int .i64 (tn:Int))∧w'.cell? ⟨gb,0,none⟩=some (.slice b.A bk b.c)∧w'.cell? ⟨gb,1,none⟩=some (.int .i64 b.t)∧w'.cell? ⟨gb,2,none⟩=some (.bool b.ff)∧w'.cell? ⟨gb,3,none⟩=some (.bool b.it))) (by kernel_rfl) ?_ (fun hh=>?_)
   ·(first|exact HSC.out _ (Chg.refl _ _)|exact HSC.out _ (Chg.of_below bd_ _)|exact HSC.out _ C11.out|exact HSC.out _ C10.out)
   refine tk_ 0 oRk0 (v:=?_) ?_ ?_
   rotate_left
   ·intro w hSw;(try dsimp only at hSw);go_simp;(try with_reducible rfl)
   try simp only [Act.put,la_,lz_,ls_]
   refine tk_ 1 oRk1 (v:=?_) ?_ ?_
   rotate_left
   ·intro w hSw;(try dsimp only at hSw);go_simp;(try with_reducible rfl)
   try simp only [Act.put,la_,lz_,ls_]
   refine tk_ 2 oRk2 (v:=?_) ?_ ?_
   rotate_left
   ·intro w hSw;(try dsimp only at hSw);go_simp;(try with_reducible rfl)
   try simp only [Act.put,la_,lz_,ls_]
   refine tk_ 3 oRk3 (v:=?_) ?_ ?_
   rotate_left
   ·intro w hSw;(try dsimp only at hSw);go_simp;(try with_reducible rfl)
   try simp only [Act.put,la_,lz_,ls_]
   refine tk_ 4 oRk4 (v:=?_) ?_ ?_
   rotate_left
   ·intro w hSw;(try dsimp only at hSw);go_simp;(try with_reducible rfl)
   try simp only [Act.put,la_,lz_,ls_]
   refine tk_ 5 oRk5 (v:=?_) ?_ ?_
   rotate_left
   ·intro w hSw;(try dsimp only at hSw);go_simp;(try with_reducible rfl)
   try simp only [Act.put,la_,lz_,ls_]
   refine tk_ 6 oRk6 (v:=?_) ?_ ?_
   rotate_left
   ·intro w hSw;(try dsimp only at hSw);go_simp;(try with_reducible rfl)
   try simp only [Act.put,la_,lz_,ls_]
   refine tk_ 8 oRk8 (v:=?_) ?_ ?_
   rotate_left
   ·intro w hSw;(try dsimp only at hSw);go_simp;(try with_reducible rfl)
   try simp only [Act.put,la_,lz_,ls_]
   refine tk_ 9 oRk9 (v:=?_) ?_ ?_
   rotate_left
   ·intro w hSw;(try dsimp only at hSw);go_simp;(try with_reducible rfl)
   try simp only [Act.put,la_,lz_,ls_]
   refine tk_ 10 oRk10 (v:=?_) ?_ ?_
   rotate_left
   ·intro w hSw;(try dsimp only at hSw);go_simp;(try with_reducible rfl)
   try simp only [Act.put,la_,lz_,ls_]
   refine tk_ 11 oRk11 (v:=?_) ?_ ?_
   rotate_left
   ·intro w hSw;(try dsimp only at hSw);go_simp;(try with_reducible rfl)
   try simp only [Act.put,la_,lz_,ls_]
   refine rd_ [7] ?_
   refine AllReadyH.cons (o:=oRk7) rfl (fun K hK=>?_) AllReadyH.nil
   go_simp
   have HJ:=hd_ (HSPR.out w8.drew)
   with_reducible refine HJ.out.mono ?_
   rintro e w10 ⟨rfl,hb9⟩
   have hb9:=bt_ (show Below w8.heap.size w8 w8.drew from bd_) hb9
   have C10:=hd_ (Chg.of_below hb9 (fun k=>k=g1))
   have T10:=hd_ (show TilesB w10 g1 (tilesTo nt P.bs S.sb i) from Blk.keep T8.out hb9)
   clear hb9 HJ
   refine hK.out _ _ ?_ (fun hh=>?_)
   ·(first|exact HSC.out _ (Chg.refl _ _)|exact HSC.out _ (Chg.of_below bd_ _)|exact HSC.out _ C11.out|exact HSC.out _ C10.out)
   clear hK K
   try simp only [Act.put,la_,lz_,ls_]
   refine tk_ 12 oRk12 (v:=?_) ?_ ?_
   rotate_left
   ·intro w hSw;(try dsimp only at hSw);go_simp;(try with_reducible rfl)
   try simp only [Act.put,la_,lz_,ls_]
   refine tk_ 13 oRk13 (v:=?_) ?_ ?_
   rotate_left
   ·intro w hSw;(try dsimp only at hSw);go_simp;(try with_reducible rfl)
   try simp only [Act.put,la_,lz_,ls_]
   refine rd_ [14] ?_
   refine AllReadyH.cons (o:=oRk14) rfl (fun K hK=>?_) AllReadyH.nil
   obtain ⟨y0,y1,y2⟩:=TilesB.cells T10.out (k:=tn) (by rw [HTL.out];exact htn')
   have f0:=Blk.free T10.out (tn*3)
   have f1:=Blk.free T10.out (tn*3+1)
   have f2:=Blk.free T10.out (tn*3+2)
   go_simp
   have T11:=hd_ (TilesB.set T10.out (k:=tn) (by rw [HTL.out];exact htn') (tlOf b))
   have C11:=hd_ (((C10.out.setSame (i:=tn*3) (.int .i64 (sprd b:Int))).setSame (i:=tn*3+1) (.bool b.ff)).setSame (i:=tn*3+2) (.bool b.it))
   clear y0 y1 y2 f0 f1 f2
   refine hK.out _ _ ?_ (fun hh=>?_)
   ·(first|exact HSC.out _ (Chg.refl _ _)|exact HSC.out _ (Chg.of_below bd_ _)|exact HSC.out _ C11.out|exact HSC.out _ C10.out)
   clear hK K
   try simp only [Act.put,la_,lz_,ls_]
   refine wpAnyH_done (by kernel_rfl) ?_ _
   clear HSC
   go_wp2_with fail
   go_roundw
   case rel=>exact ⟨i+1,by omega,by go_num,by rw [HNX.out];exact T11.out,(C8.out.trans C11.out).mono' (fun k hk=>hk.elim id id)⟩
   case measure=>simp [intOf];omega
  obtain rfl:pb=i:=by omega
  have hlt:¬ (pb:Int)<(pb:Int):=by omega
  obtain ⟨wq,hwq⟩:∃ wq,wq=wr:=⟨_,rfl⟩
  subst hwq
  have a0:=M7.out.a.cell 0
  have a1:=M7.out.a.cell 1
  have a2:=M7.out.a.cell 2
  have HSWI:=hd_ (rswitches_yes W H T wq HOK.out)
  rw [HNE.out] at HSWI
  go_wp2_with fail
  refine HSWI.out.mono ?_
  rintro e w8 ⟨rfl,hb8⟩
  have C8:=hd_ (CC.out.belowB hb8)
  have T8:=hd_ (show TilesB w8 g1 (tilesTo nt P.bs S.sb pb) from Blk.keep TT.out hb8)
  have M8:=hd_ (M7.out.keep hb8)
  have X8:=hd_ (HC6.out _ C8.out)
  clear HSWI hb8 a0 a1 a2 p1 TT CC M7
  have hmk9:=fun W'=>bool_make W' ne (by omega)
  go_upto_region 19 with (fail)
  clear hmk9
  have BW:=bn_ w8 (.cells (bools (List.replicate ne false)).toArray 4)
  have O9:=hd_ (show BitsB _ w8.heap.size (onTo ne (cat (ls.take 0))) from Blk.made w8 4 (bools (List.replicate ne false)).toArray)
  have T9:=hd_ (show TilesB _ g1 (tilesTo nt P.bs S.sb pb) from Blk.keep T8.out BW)
  have M9:=hd_ (M8.out.keep BW)
  have X9:=hd_ (X8.out.keep BW)
  have hg2:g1<w8.heap.size:=T8.out.lt
  clear BW C8 T8 M8 X8
  generalize w8.alloc (.cells (bools (List.replicate ne false)).toArray 4)=w9 at O9 T9 M9 X9 ⊢
  generalize w8.heap.size=g2 at O9 hg2 ⊢
  have HLR:=hd_ (show ∀ l ∈ ls,∀ s ∈ l.2.2,0<=s∧s<(ne:Int) from fun l hl s hs=>by
   obtain ⟨k,hk,rfl⟩:=List.getElem_of_mem hl
   have h:=HRISE.out k (by unfold wayl;rw [List.length_map];exact hk)
   rw [wayl_get hk] at h
   exact rise_in h s hs)
  have HMW:=hd_ (fun (W':World) (hW:Chg w9 W' (fun k=>k=g2))=>M9.out.chg hW (fun k hk=>by omega))
  have HXW:=hd_ (fun (W':World) (hW:Chg w9 W' (fun k=>k=g2))=>hW.blk X9.out (by omega))
  have HTW:=hd_ (fun (W':World) (hW:Chg w9 W' (fun k=>k=g2))=>show TilesB W' g1 (tilesTo nt P.bs S.sb pb) from hW.blk T9.out (by omega))
  go_wp2_with fail
  go_loopw [20] (fun v20 wx=>∃ i:Nat,i<=m∧v20=.int .i64 (i:Int)∧BitsB wx g2 (onTo ne (cat (ls.take i)))∧Chg w9 wx (fun k=>k=g2)) (fun v20 _=>m-(intOf v20).toNat)
  case atStart=>exact ⟨0,by omega,rfl,O9.out,Chg.refl _ _⟩
  case round =>
   clear O9
   obtain ⟨i,hi,rfl,ho,hc⟩:=hrel
   have OO:=hd_ ho
   have CC:=hd_ hc
   clear ho hc
   by_cases hin:i<m
   case pos =>
    have hin':(i:Int)<(m:Int):=by omega
    have hib:i<ls.length:=by rw [HM.out];exact hin
    obtain ⟨ba,hBA,hbab,b0⟩:=HLS.out.at_ hib
    have hrb:=HLS.out.all _ (List.getElem_mem hib)
    have hlb:=HLB.out _ (List.getElem_mem hib)
    have HLK:=hd_ (HLR.out _ (List.getElem_mem hib))
    have HCT:=hd_ (cat_take ls i hib)
    generalize ls[i]'hib=z at b0 hrb hlb HLK HCT
    obtain ⟨zA,zc,lb⟩:=z
    simp only [slv] at b0 hrb hlb HLK HCT
    obtain ⟨r,hr⟩:∃ r,lb.length=r:=⟨_,rfl⟩
    have HRL:=hd_ hr
    rw [hr] at b0 hrb hlb
    have HRB:=hd_ hrb
    subst hBA
    have HB0:=hd_ (fun (W':World) (hW:Chg w9 W' (fun k=>k=g2))=>((HMW.out _ hW).q.cell (p:=ba.add i) (by rw [add_block];exact hbab)).trans b0)
    clear b0 hrb hr hib hbab
    go_wp2_with fail
    go_loopw [21] (fun v21 wx=>∃ k:Nat,k<=r∧v21=.int .i64 (k:Int)∧BitsB wx g2 (onTo ne (cat (ls.take i)++lb.take k))∧Chg w9 wx (fun k=>k=g2)) (fun v21 _=>r-(intOf v21).toNat)
    case atStart=>exact ⟨0,by omega,rfl,by simpa using OO.out,CC.out⟩
    case round =>
     clear OO CC
     obtain ⟨k,hk,rfl,ho,hc⟩:=hrel
     have OO:=hd_ ho
     have CC:=hd_ hc
     clear ho hc
     have b0:=HB0.out _ CC.out
     by_cases hkr:k<r
     case pos =>
      have hkr':(k:Int)<(r:Int):=by omega
      obtain ⟨ca,hca,-,l0⟩:=(HRB.out.later (HMW.out _ CC.out).q).int hkr
      have hkl:k<lb.length:=by rw [HRL.out];exact hkr
      have hsw:=HLK.out (lb.getD k 0) (by rw [List.getD_eq_getElem?_getD,List.getElem?_eq_getElem hkl];exact List.getElem_mem hkl)
      have HNX:=hd_ (show onTo ne (cat (ls.take i)++lb.take (k+1))=(onTo ne (cat (ls.take i)++lb.take k)).set (lb.getD k 0).toNat true by
       rw [List.take_succ_eq_append_getElem hkl,<- List.append_assoc,onTo_snoc,List.getD_eq_getElem?_getD,List.getElem?_eq_getElem hkl];rfl)
      generalize lb.getD k 0=s at l0 hsw HNX
      obtain ⟨sn,rfl⟩:∃ sn:Nat,s=(sn:Int):=⟨s.toNat,by omega⟩
      rw [Int.toNat_natCast] at HNX
      have hsn:sn<ne:=by omega
      have hsn':=hsw.2
      have t0:=BitsB.at_ OO.out (a:=sn) (by rw [onTo_len];exact hsn)
      have t1:=Blk.free OO.out sn
      subst hca
      clear hkl hsw
      go_wp2_with fail
      go_roundw
      case rel=>exact ⟨k+1,by omega,by go_num,by rw [HNX.out];exact BitsB.set OO.out sn true,CC.out.setSame _⟩
      case measure=>simp [intOf];omega
     obtain rfl:r=k:=by omega
     have hlt:¬ (r:Int)<(r:Int):=by omega
     have HOE:=hd_ (show cat (ls.take i)++lb.take r=cat (ls.take (i+1)) by rw [HCT.out,<- HRL.out,List.take_length])
     go_wp2_with fail
     go_roundw
     case rel=>exact ⟨i+1,by omega,by go_num,by rw [<- HOE.out];exact OO.out,CC.out⟩
     case measure=>simp [intOf];omega
   obtain rfl:m=i:=by omega
   have hlt:¬ (m:Int)<(m:Int):=by omega
   have MW:=hd_ (HMW.out _ CC.out)
   have XW:=hd_ (HXW.out _ CC.out)
   have TW:=hd_ (HTW.out _ CC.out)
   have hOO:=OO.out
   rw [<- HM.out,List.take_length] at hOO
   have OW:=hd_ hOO
   clear hOO OO CC
   have x3:=XW.out.cell 3
   have f3:=XW.out.free 3
   go_upto_region 27 with (fail)
   have XA:=hd_ (XW.out.put 3 (.slice (some ⟨g1,0,none⟩) nt nt))
   have CA:=Chg.set wr gc 3 (.slice (some ⟨g1,0,none⟩) nt nt)
   have x4:=XA.out.cell 4
   have f4:=XA.out.free 4
   clear x3 f3
   go_upto_region 28 with (fail)
   have XB:=hd_ (show Blk ((wr.setCell ⟨gc,3,none⟩ (.slice (some ⟨g1,0,none⟩) nt nt)).setCell ⟨gc,4,none⟩ (.slice (some ⟨g2,0,none⟩) ne ne)) gc 37 #[.int .i64 W,.int .i64 H,.int .i64 T,.slice (some ⟨g1,0,none⟩) nt nt,.slice (some ⟨g2,0,none⟩) ne ne,.slice S.AI ni S.cI,.slice S.AO no S.cO] from by
    have h:=XA.out.put 4 (.slice (some ⟨g2,0,none⟩) ne ne)
    simpa using h)
   have CB:=CA.setSame (i:=4) (.slice (some ⟨g2,0,none⟩) ne ne)
   have MB:=hd_ (MW.out.chg CB (fun k hk=>by omega))
   have TB:=hd_ (CB.blk TW.out (by omega))
   have OB:=hd_ (CB.blk OW.out (by omega))
   clear x4 f4 CA CB XA MW XW TW OW
   generalize (wr.setCell ⟨gc,3,none⟩ (.slice (some ⟨g1,0,none⟩) nt nt)).setCell ⟨gc,4,none⟩ (.slice (some ⟨g2,0,none⟩) ne ne)=wz at XB MB TB OB ⊢
   obtain ⟨⟨k0,k1,k2,k3,k4,k5,k6⟩,-⟩:=cells7 XB.out
   obtain ⟨⟨z0,z1,z2,z3,z4,z5,z6⟩,s0,s1,s2,s3,s4,s5,s6⟩:=cells7 MB.out.r
   go_wp2_with fail
   rw [<- HRR.out]
   have HON:=hd_ (show onTo ne (cat ls)=onTo (edgesL W H T).length (wayl ls).flatten by rw [HNE.out,wayl_flat])
   have hq:=MB.out.q
   obtain rfl:=HNI.out
   obtain rfl:=HNO.out
   have h:=fun (tmps:Array Value) (h8:tmps.getD 8 undef=.pointer (some ⟨w.heap.size+1+1+1,0,none⟩)) (h9:tmps.getD 9 undef=.int .i64 0)=>mk_end (fn:=Tryz.f8) rfl (P:=P) (S:=S) (wy:=wayl ls) (w:=w) ⟨W,H,T,some ⟨g1,0,none⟩,nt,tilesTo nt P.bs S.sb pb,some ⟨g2,0,none⟩,ne,onTo ne (cat ls),S.AI,S.cI,S.si,S.AO,S.cO,S.so⟩ 0 tmps MB.out.r hq (by omega) (fun W' hW=>by
     have hqw:=hW.below hq hq.size (fun k hk=>by omega)
     exact ⟨by have h:=rd_of_blk (hW.blk TB.out (fun e=>by omega)) 3 nt (by rw [tiles3_length,tilesTo_len]);simpa only [tilesTo_len] using h,by have h:=rd_of_blk (hW.blk OB.out (fun e=>by omega)) 1 ne (by rw [bools_length,Nat.mul_one,onTo_len]);simpa only [onTo_len] using h,HSI.out.i.later hqw,HSI.out.o.later hqw⟩)
     (.inr ⟨rfl,HX.out,HD.out,⟨⟨rfl,rfl,rfl⟩,by rw [HNT.out,Int.toNat_natCast,HPB.out],HON.out,rfl,rfl⟩⟩) h8 h9
   simp only [tilesTo_len,onTo_len] at h
   exact h _ rfl rfl
end Go.Proofs.YtmkiphadkmodnaaGreat
