/- BfM, 46 -/
import Derived.Test.YtmkiphadkmodnaaGreatZBfM44
import Derived.Test.YtmkiphadkmodnaaGreatZBfM45
import Derived.Test.YtmkiphadkmodnaaGreatZBfM42
import Derived.Test.YtmkiphadkmodnaaGreatZBfM0
set_option linter.all false
set_option maxRecDepth 100000
set_option maxHeartbeats 8000000
namespace Go.Proofs.YtmkiphadkmodnaaGreat
open Go.RowKit Go.Maps
theorem pcheck30_any (W H T:Int) (A B:Option Addr) (c cB:Nat) (ws:List WM) (ls:List SL) (w:World) (hin:WsIn w A c ws) (hf:WsFit ws) (hls:SLs w B cB ls) (hlb:∀ x ∈ ls,x.2.2.length<=100000) (hl5:ls.length<=100000) (hsum:wSum (wayl ls)<=1000000) :
  Calls Tryz.prog 19 #[.agg #[.int .i64 W,.int .i64 H,.int .i64 T],.slice A ws.length c,.slice B ls.length cB] w fun e w'=>e=.returned (.int .i64 (chk30 W H T (wpl ws) (wayl ls)))∧Below w.heap.size w w':=by
 have HI:=hd_ hin
 have HF:=hd_ hf
 have HLS:=hd_ hls
 have HLB:=hd_ hlb
 have HSUM:=hd_ hsum
 have HWL:=hd_ (show (wayl ls).length=ls.length by unfold wayl;rw [List.length_map])
 have HPL:=hd_ (show (wpl ws).length=ws.length by unfold wpl;rw [List.length_map])
 have hn3:=hf.n
 obtain ⟨d,hd⟩:∃ d,chk30 W H T (wpl ws) (wayl ls)=d:=⟨_,rfl⟩
 have HD:=hd_ hd
 rw [hd]
 have Q0:=hd_ (bn_ w (.cells #[.int .i64 W,.int .i64 H,.int .i64 T] 23))
 have X0:=hd_ (Blk.made w 23 #[.int .i64 W,.int .i64 H,.int .i64 T])
 clear hin hf hls hlb hd hsum
 obtain ⟨n,hn⟩:∃ n,ws.length=n:=⟨_,rfl⟩
 obtain ⟨m,hm⟩:∃ m,ls.length=m:=⟨_,rfl⟩
 have HN:=hd_ hn
 have HM:=hd_ hm
 rw [hn] at hn3 HPL
 rw [hm] at hl5 HWL
 rw [hn,hm]
 clear hn hm
 go_enter Tryz.func19,Tryz.ntmps19
 go_upto_region 1 with (fail)
 generalize w.alloc (.cells #[.int .i64 W,.int .i64 H,.int .i64 T] 23)=w1 at Q0 X0 ⊢
 have a0:=X0.out.cell 0
 have a1:=X0.out.cell 1
 have a2:=X0.out.cell 2
 have HCK:=hd_ (check_any W H T)
 by_cases hok:okA W H T
 case neg =>
  have hz:=hd_ (show d=1 by rw [<- HD.out];unfold chk30;rw [if_pos hok])
  have hce:chkE W H T=1:=if_neg hok
  rw [hce] at HCK
  clear hce hok
  go_wp2_with fail
  refine (HCK.out _).mono ?_
  rintro e w2 ⟨rfl,hb⟩
  have B2:=hd_ (bt_ Q0.out hb)
  clear hb a0 a1 a2
  go_wp2_with fail
  go_ret
  exact ⟨by rw [hz.out];rfl,B2.out⟩
 have hce:chkE W H T=0:=if_pos hok
 rw [hce] at HCK
 have HOK:=hd_ hok
 clear hce hok
 go_wp2_with fail
 refine (HCK.out _).mono ?_
 rintro e w2 ⟨rfl,hb⟩
 have B2:=hd_ (bt_ Q0.out hb)
 have X2:=hd_ (X0.out.keep hb)
 clear hb a0 a1 a2 HCK Q0 X0
 have a0:=X2.out.cell 0
 have a1:=X2.out.cell 1
 have a2:=X2.out.cell 2
 have HGO:=hd_ (gridOf_any W H T w2 HOK.out)
 go_wp2_with fail
 refine HGO.out.mono ?_
 clear a0 a1 a2 HGO
 rintro e w4 ⟨AT,AE,cT,cE,vA,N,rfl,hb,hG,hNN,-,ga,cA,f9,rs9,rfl,-,-⟩
 have HNN:=hd_ hNN
 have B4:=hd_ (bt_ B2.out hb)
 have X4:=hd_ (X2.out.keep hb)
 have G4:=hd_ hG
 clear hb hG hNN B2 X2
 have HGL:=hd_ (show G4.out.re.len=G4.out.re.len from rfl)
 obtain ⟨ne,hne⟩:∃ ne,(edgesL W H T).length=ne:=⟨_,rfl⟩
 have HES:=hd_ hne
 rw [hne] at G4 ⊢
 clear hne HGL
 go_upto_region 5 with (fail)
 have B5:=hd_ (bt_ B4.out (bn_ w4 (.cells #[.slice AT N cT,.slice AE ne cE,.slice (some ⟨ga,0,none⟩) N cA] 95)))
 have X5:=hd_ (Blk.made w4 95 #[.slice AT N cT,.slice AE ne cE,.slice (some ⟨ga,0,none⟩) N cA])
 have Y5:=hd_ (X4.out.keep (bn_ w4 (.cells #[.slice AT N cT,.slice AE ne cE,.slice (some ⟨ga,0,none⟩) N cA] 95)))
 have G5:=hd_ (G4.out.later (bn_ w4 (.cells #[.slice AT N cT,.slice AE ne cE,.slice (some ⟨ga,0,none⟩) N cA] 95)))
 clear G4 B4 X4
 generalize w4.alloc (.cells #[.slice AT N cT,.slice AE ne cE,.slice (some ⟨ga,0,none⟩) N cA] 95)=w5 at B5 X5 Y5 G5 ⊢
 generalize w4.heap.size=gt at X5 ⊢
 have a0:=Y5.out.cell 0
 have a1:=Y5.out.cell 1
 have a2:=Y5.out.cell 2
 have HMY:=hd_ (pmay_any W H T A c ws w5 (HI.out.later B5.out) HF.out)
 rw [HN.out] at HMY
 obtain ⟨bm,hbm⟩:∃ bm,decide (MayP W H T (wpl ws))=bm:=⟨_,rfl⟩
 rw [hbm] at HMY
 have HBM:=hd_ hbm
 clear hbm
 go_wp2_with fail
 refine HMY.out.mono ?_
 rintro e w6 ⟨rfl,hb⟩
 have B6:=hd_ (bt_ B5.out hb)
 have X6:=hd_ (X5.out.keep hb)
 have G6:=hd_ (G5.out.later hb)
 clear hb a0 a1 a2 HMY B5 X5 Y5 G5
 cases bm with
 | false =>
  have hz:=hd_ (show d=1 by rw [<- HD.out];unfold chk30;rw [if_neg (fun h=>h HOK.out),if_pos (of_decide_eq_false HBM.out)])
  go_wp2_with fail
  go_ret
  exact ⟨by rw [hz.out];rfl,B6.out⟩
 | true =>
 have HMAY:=hd_ (of_decide_eq_true HBM.out)
 by_cases hmn:m=n
 case neg =>
  have hz:=hd_ (show d=1 by rw [<- HD.out];unfold chk30;rw [if_neg (fun h=>h HOK.out),if_neg (fun h=>h HMAY.out),if_pos (by rw [HWL.out,HPL.out];exact hmn)])
  have h1:((m:Int)==(n:Int))=false:=by rw [beq_eq_false_iff_ne];omega
  have h2:((m:Int) != (n:Int))=true:=by rw [bne_iff_ne];omega
  clear hmn
  go_wp2_with fail
  go_ret
  exact ⟨by rw [hz.out];rfl,B6.out⟩
 obtain rfl:n=m:=hmn.symm
 have HD1:=hd_ (show (if ¬ RiseAll (edgesL W H T).length (wayl ls) then (1:Int)
  else if ¬ ApartP (goodW (trTo W H T (nodesI W H T).toNat) (wpl ws)) (wTo (edgesL W H T) (wayl ls) n) then 320
  else if ¬ JoinAll (edgesL W H T) (wpl ws) (wayl ls) then 300 else 0)=d by
   have h:=HD.out;unfold chk30 at h;rw [if_neg (fun h=>h HOK.out),if_neg (fun h=>h HMAY.out),if_neg (fun h=>h (by rw [HWL.out,HPL.out])),HWL.out] at h;exact h)
 clear hmn HD HBM
 rw [HNN.out,Int.toNat_natCast] at HD1
 have HTRK:=hd_ (show ∀ k:Int,isN W H T k->(trTo W H T N).getD k.toNat false=(whK W H T k==4||whK W H T k==5) from fun k hk=>by
  have h1:=hk.2.1
  have h2:=hk.2.2
  rw [HNN.out] at h2
  obtain ⟨kn,rfl⟩:∃ kn:Nat,k=(kn:Int):=⟨k.toNat,by omega⟩
  rw [Int.toNat_natCast]
  unfold trTo
  rw [List.getD_eq_getElem?_getD,List.getElem?_map,List.getElem?_range (by omega)]
  rfl)
 generalize edgesL W H T=es at HD1 G6 HES
 generalize trTo W H T N=tr at HD1 G6 HTRK
 have hne3:=G6.out.nE
 have hN3:=G6.out.nN
 have HCO:=hd_ (containsR_any 54 (fun args w=>by kernel_rfl) (.pointer (some ⟨gt,0,none⟩)) (fun l=>!decide (RiseP (ne:Int) l)) w6 B n cB ls (HLS.out.later B6.out) HM.out hl5 (fun x hx W' hW=>badway_any gt ne cE AE x.1 x.2.2.length x.2.1 x.2.2 W' (((HLS.out.later B6.out).all x hx).later hW) (HLB.out x hx) ((X6.out.keep hW).cell 1) hne3))
 obtain ⟨bo,hbo⟩:∃ bo,(ls.any fun x=>!decide (RiseP (ne:Int) x.2.2))=bo:=⟨_,rfl⟩
 rw [hbo] at HCO
 have HBO:=hd_ hbo
 clear hbo
 go_wp2_with fail
 refine HCO.out.mono ?_
 rintro e w7 ⟨rfl,hb⟩
 have B7:=hd_ (bt_ B6.out hb)
 have X7:=hd_ (X6.out.keep hb)
 have G7:=hd_ (G6.out.later hb)
 clear hb HCO B6 X6 G6
 cases bo with
 | true =>
  have hz:=hd_ (show d=1 by
   rw [<- HD1.out,HES.out,if_pos (fun hall=>by
    obtain ⟨x,hx,hb⟩:=List.any_eq_true.1 HBO.out
    obtain ⟨k,hk,rfl⟩:=List.getElem_of_mem hx
    have h:=hall k (by rw [HWL.out,<- HM.out];exact hk)
    rw [wayl_get hk] at h
    simp [h] at hb)])
  go_wp2_with fail
  go_ret
  exact ⟨by rw [hz.out];rfl,B7.out⟩
 | false =>
 have HLR:=hd_ (show ∀ x ∈ ls,RiseP (ne:Int) x.2.2 from fun x hx=>by
  by_cases hr:RiseP (ne:Int) x.2.2
  ·exact hr
  ·have h:(ls.any fun x=>!decide (RiseP (ne:Int) x.2.2))=true:=List.any_eq_true.2 ⟨x,hx,by simp [hr]⟩
   rw [HBO.out] at h
   cases h)
 have HRA:=hd_ (show RiseAll ne (wayl ls) from fun k hk=>by
  have hk':k<ls.length:=by rw [HWL.out,<- HM.out] at hk;exact hk
  rw [wayl_get hk']
  exact HLR.out _ (List.getElem_mem hk'))
 have HD2:=hd_ (show (if ¬ ApartP (goodW tr (wpl ws)) (wTo es (wayl ls) n) then (320:Int) else if ¬ JoinAll es (wpl ws) (wayl ls) then 300 else 0)=d from by
  rw [<- HD1.out,HES.out];exact (if_neg (fun h=>h HRA.out)).symm)
 clear HD1 HBO HRA
 have hmm:=@run_makeMap Tryz.prog
 go_upto_region 10 with (fail)
 clear hmm
 have BW:=bt_ (bt_ (bn_ w7 (.map #[] 0)) (bn_ _ (.map #[] 0))) (bn_ _ (.cells #[.map (some (w7.heap.size+1))] 102))
 have S8:=hd_ (show ChkS (((w7.alloc (.map #[] 0)).alloc (.map #[] 0)).alloc (.cells #[.map (some (w7.heap.size+1))] 102)) w7.heap.size (w7.heap.size+1) [] [] (((w7.alloc (.map #[] 0)).alloc (.map #[] 0)).alloc (.cells #[.map (some (w7.heap.size+1))] 102)) from
  ChkS.start (MapV.below (MapV.made w7) (bt_ (bn_ _ (.map #[] 0)) (bn_ _ _))) (by have h:=MapV.made (lit:=Lit.int .i64) (e:=3) (w7.alloc (.map #[] 0));rw [World.size_alloc] at h;exact MapV.below h (bn_ _ _)) (by omega))
 have R8:=hd_ (show Blk (((w7.alloc (.map #[] 0)).alloc (.map #[] 0)).alloc (.cells #[.map (some (w7.heap.size+1))] 102)) (w7.heap.size+1+1) 102 #[.map (some (w7.heap.size+1))] from by
  have h:=Blk.made ((w7.alloc (.map #[] 0)).alloc (.map #[] 0)) 102 #[.map (some (w7.heap.size+1))]
  rw [World.size_alloc,World.size_alloc] at h
  exact h)
 have X8:=hd_ (X7.out.keep BW)
 have hgt:=X7.out.lt
 have BW:=hd_ BW
 have hw7:=B7.out.size
 generalize ((w7.alloc (.map #[] 0)).alloc (.map #[] 0)).alloc (.cells #[.map (some (w7.heap.size+1))] 102)=w8 at S8 R8 X8 BW ⊢
 generalize hgm:w7.heap.size=gm at S8 R8 hgt hw7 ⊢
 have HGM:=hd_ hgm
 generalize hgr:gm+1=gr at S8 R8 ⊢
 generalize hgb:gr+1=gb at R8 ⊢
 have HGX:=hd_ (show ∀ W':World,Chg w8 W' (fun k=>k=gm∨k=gr)->Blk W' gt 95 #[.slice AT N cT,.slice AE ne cE,.slice (some ⟨ga,0,none⟩) N cA] from fun W' hW=>hW.blk X8.out (by omega))
 have HRX:=hd_ (show ∀ W':World,Chg w8 W' (fun k=>k=gm∨k=gr)->Blk W' gb 102 #[.map (some gr)] from fun W' hW=>hW.blk R8.out (by omega))
 have HQ7:=hd_ (show ∀ W':World,Chg w8 W' (fun k=>k=gm∨k=gr)->Below w7.heap.size w7 W' from fun W' hW=>hW.below BW.out BW.out.size (fun k hk=>by omega))
 have HQ:=hd_ (show ∀ W':World,Chg w8 W' (fun k=>k=gm∨k=gr)->Below w.heap.size w W' from fun W' hW=>bt_ B7.out (HQ7.out _ hW))
 clear X7 X8 R8 B7 BW hgm hgr hgb hgt hw7 HGM
 obtain ⟨good,hgood⟩:∃ G,goodW tr (wpl ws)=G:=⟨_,rfl⟩
 obtain ⟨ways,hways⟩:∃ G,wayl ls=G:=⟨_,rfl⟩
 have HD3:=hd_ (show ¬ ApartP good (wTo es ways n)->d=320 from fun h=>by rw [<- HD2.out,hgood,hways,if_pos h])
 have HD4:=hd_ (show ApartP good (wTo es ways n)->(if ¬ JoinAll es (wpl ws) ways then (300:Int) else 0)=d from fun h=>by have h2:=HD2.out;rw [hgood,hways,if_neg (show ¬ ¬ ApartP good (wTo es ways n) from fun hn=>hn h)] at h2;exact h2)
 have HGOOD:=hd_ hgood
 have HWAYS:=hd_ hways
 rw [hways] at HWL HSUM
 clear hgood hways HD2

 go_wp2_with fail

 go_loopw [51] (fun v51 wx=>∃ i:Nat,i<=n∧v51=.int .i64 (i:Int)∧ChkS w8 gm gr (wTo es ways i) (eWo es ways i) wx∧Hid (ApartP good (wTo es ways i))) (fun v51 _=>n-(intOf v51).toNat)
 case atStart=>exact ⟨0,by omega,rfl,S8.out,hd_ (ApartP.nil _)⟩
 case round =>
  clear S8
  obtain ⟨i,hi,rfl,hs,HO⟩:=hrel
  have SS:=hd_ hs
  clear hs
  by_cases hin:i<n
  case neg =>
   obtain rfl:n=i:=by omega
   have hlt:¬ (n:Int)<(n:Int):=by omega
   have HD5:=hd_ (HD4.out HO.out)
   obtain ⟨wq,hwq⟩:∃ wq,wq=wr:=⟨_,rfl⟩
   subst hwq
   obtain ⟨c2,M2,RT,hc2,hm2,hf2,hr2,ht2⟩:=SS.out.rt
   have HT2:=hd_ (show Tells RT (allE es ways) from by rw [<- eWo_all,HWL.out];exact ht2)
   have HMR:=hd_ (show ∀ W':World,Below wq.heap.size wq W'->MapN W' gr c2 M2 from fun W' h=>MapV.below hm2 h)
   have HF2:=hd_ hf2
   have HR2:=hd_ hr2
   have HRB2:=hd_ (show ∀ W':World,Below wq.heap.size wq W'->Blk W' gb 102 #[.map (some gr)] from fun W' h=>(HRX.out _ SS.out.chg).keep h)
   have HQ2:=hd_ (show ∀ W':World,Below wq.heap.size wq W'->Below w.heap.size w W' from fun W' h=>bt_ (HQ.out _ SS.out.chg) h)
   have HLAW:=hd_ (show ∀ (i:Nat) (hi:i<ws.length) (f t:Nat),ws[i].1=(f:Int)->(Cn (allE es ways) (f:Int) (t:Int)↔Jn es (ways.getD i []) f t) from fun i hi f t hf=>by
    refine way_law (W:=W) (H:=H) (T:=T) (tr:=tr) (ws:=ws) (by rw [HWL.out,HN.out]) HMAY.out HTRK.out (by rw [HWL.out,HGOOD.out];exact HO.out) (fun j hj s hs=>?_) hi hf
    have hjl:j<ls.length:=by rw [HM.out,<- HWL.out];exact hj
    rw [<- HWAYS.out,wayl_get hjl] at hs
    have h1:=rise_in (HLR.out _ (List.getElem_mem hjl)) s hs
    obtain ⟨a,b,m,hed,-⟩:=edge_in G7.out.inN h1.1 (by rw [G7.out.len];exact h1.2)
    exact ⟨a,b,hed⟩)
   clear hc2 hm2 hf2 hr2 ht2 SS HO
   go_wp2_with fail
   go_loopw [131] (fun v131 wx=>∃ i:Nat,i<=n∧v131=.int .i64 (i:Int)∧Below wq.heap.size wq wx∧Hid (∀ k,k<i->∀ t ∈ ((wpl ws).getD k (0,[])).2,Jn es (ways.getD k []) ((wpl ws).getD k (0,[])).1.toNat t.toNat)) (fun v131 _=>n-(intOf v131).toNat)
   case atStart=>exact ⟨0,by omega,rfl,br_,hd_ (fun k hk=>by omega)⟩
   case round =>
    obtain ⟨i,hi,rfl,hbw,HO⟩:=hrel
    have BW:=hd_ hbw
    clear hbw
    by_cases hin:i<n
    case neg =>
     obtain rfl:n=i:=by omega
     have hlt:¬ (n:Int)<(n:Int):=by omega
     have hz:=hd_ (show d=0 by rw [<- HD5.out,if_neg (fun h=>h (fun k hk=>HO.out k (by rw [<- HPL.out];exact hk)))])
     go_wp2_with fail
     go_ret
     exact ⟨by rw [hz.out];rfl,HQ2.out _ BW.out⟩
    have hin':(i:Int)<(n:Int):=by omega
    have hil:i<ws.length:=by rw [HN.out];exact hin
    have HB:=hd_ (HQ2.out _ BW.out)
    obtain ⟨g0,g1⟩:=wcells_get ws i hil
    obtain ⟨pa,hPA,hpb,e0,e1⟩:=((HI.out.later HB.out).row).two g0 g1
    have hea:=(HI.out.later HB.out).all _ (List.getElem_mem hil)
    have hll:=HF.out.l hil
    obtain ⟨hmf,hmt⟩:=may_from HMAY.out hil
    have hwp:=wpl_get hil
    have HLW:=hd_ (HLAW.out i hil)
    have HBAD:=hd_ (show ∀ t ∈ ws[i].2.2.2,¬ Jn es (ways.getD i []) ws[i].1.toNat t.toNat->d=300 from fun t ht h=>by
     rw [<- HD5.out,if_pos (fun hall=>h (by have:=hall i (by rw [HPL.out];exact hin) t (by rw [hwp];exact ht);rw [hwp] at this;exact this))])
    have HGO:=hd_ (show (∀ t ∈ ws[i].2.2.2,Jn es (ways.getD i []) ws[i].1.toNat t.toNat)->∀ k,k<i+1->∀ t ∈ ((wpl ws).getD k (0,[])).2,Jn es (ways.getD k []) ((wpl ws).getD k (0,[])).1.toNat t.toNat from fun h k hk=>by
     rcases Nat.lt_succ_iff_lt_or_eq.1 hk with e|rfl
     ·exact HO.out k e
     ·rw [hwp];exact h)
    clear hwp
    generalize ws[i]'hil=y at e0 e1 hea hll hmf hmt HBAD HGO HLW
    obtain ⟨f,yA,yc,l⟩:=y
    simp only [slv] at e0 e1 hea hll hmf hmt HBAD HGO HLW
    obtain ⟨q,hq⟩:∃ q,l.length=q:=⟨_,rfl⟩
    rw [hq] at e1 hll hea
    obtain ⟨fn,rfl⟩:∃ fn:Nat,f=(fn:Int):=⟨f.toNat,by have:=hmf.2.1;omega⟩
    have hfN:fn<N:=by have:=hmf.2.2;rw [HNN.out] at this;omega
    rw [Int.toNat_natCast] at HBAD HGO
    have HLN:=hd_ (show ∀ t ∈ l,0<=t∧t<(N:Int) from fun t ht=>by have:=(hmt t ht).2;rw [HNN.out] at this;exact this)
    have HIFF:=hd_ (show ∀ t ∈ l,RT t=RT (fn:Int)↔Jn es (ways.getD i []) fn t.toNat from fun t ht=>by
     obtain ⟨tn,rfl⟩:∃ tn:Nat,t=(tn:Int):=⟨t.toNat,by have:=(HLN.out t ht).1;omega⟩
     rw [Int.toNat_natCast,<- HLW.out fn tn rfl]
     exact ⟨fun h=>(HT2.out _ _).1 h.symm,fun h=>((HT2.out _ _).2 h).symm⟩)
    have HCO:=hd_ (containsJ_any 63 (fun args w=>by kernel_rfl) (.pointer (some ⟨gb,0,none⟩)) (.pointer (some ⟨wr.heap.size,0,none⟩)) (fun x=>decide (RT x≠RT (fn:Int))) (wr.alloc (.cells #[.int .i64 (fn:Int),.slice yA q yc] 87)) yA q yc l (hea.later (bn_ _ _)) hll (fun x hx W' hW=>by
     have hb:=bt_ BW.out (bt_ (bn_ wr (.cells #[.int .i64 (fn:Int),.slice yA q yc] 87)) hW)
     have h1:=HLN.out x hx
     exact notroot_any gb wr.heap.size gr c2 M2 RT x (fn:Int) W' (HMR.out _ hb) HF2.out HR2.out ((HRB2.out _ hb).cell 0) (((Blk.made wr 87 #[.int .i64 (fn:Int),.slice yA q yc]).keep hW).cell 0) (by omega) (by omega)))
    obtain ⟨bo,hbo⟩:∃ bo,(l.any fun x=>decide (RT x≠RT (fn:Int)))=bo:=⟨_,rfl⟩
    rw [hbo] at HCO
    have HBO:=hd_ hbo
    rw [hPA]
    obtain ⟨gp,hgp⟩:∃ p,pa.add (i*2)=p:=⟨_,rfl⟩
    rw [hgp] at e0 e1
    clear hPA hpb hea hmf hmt hq g0 g1 hil hbo
    go_wp2_with fail
    refine HCO.out.mono ?_
    rintro e w9 ⟨rfl,hb⟩
    have B9:=hd_ (bt_ BW.out (bt_ (bn_ wr (.cells #[.int .i64 (fn:Int),.slice yA q yc] 87)) hb))
    clear hb HCO e0 e1
    cases bo with
    | true =>
     have hz:=hd_ (show d=300 by
      obtain ⟨t,ht,hb⟩:=List.any_eq_true.1 HBO.out
      exact HBAD.out t ht (fun h=>of_decide_eq_true hb ((HIFF.out t ht).2 h)))
     go_wp2_with fail
     go_ret
     exact ⟨by rw [hz.out];rfl,HQ2.out _ B9.out⟩
    | false =>
     have HG:=hd_ (HGO.out (fun t ht=>(HIFF.out t ht).1 (by
      by_cases he:RT t=RT (fn:Int)
      ·exact he
      ·have h:(l.any fun x=>decide (RT x≠RT (fn:Int)))=true:=List.any_eq_true.2 ⟨t,ht,by simp [he]⟩
       rw [HBO.out] at h
       cases h)))
     go_wp2_with fail
     go_roundw
     case rel=>exact ⟨i+1,by omega,by go_num,B9.out,HG⟩
     case measure=>simp [intOf];omega
  have hin':(i:Int)<(n:Int):=by omega
  have hil:i<ws.length:=by rw [HN.out];exact hin
  have hib:i<ls.length:=by rw [HM.out];exact hin
  have hiw:i<ways.length:=by rw [HWL.out];exact hin
  have HWG:=hd_ (show ways.getD i []=ls[i].2.2 by rw [<- HWAYS.out];exact wayl_get hib)
  have HNF:=hd_ (show ∀ k,k<ls[i].2.2.length->¬ stepOk good (wTo es ways i++tch es i (ls[i].2.2.take k)) (i,(edge es (ls[i].2.2.getD k 0)).1)->d=320 from fun k hk h=>by
   rw [<- HWG.out] at h hk;exact HD3.out (by have h':=no_first hiw hk h;rw [HWL.out] at h';exact h'))
  have HNS:=hd_ (show ∀ k,k<ls[i].2.2.length->¬ stepOk good (wTo es ways i++tch es i (ls[i].2.2.take k)++[(i,(edge es (ls[i].2.2.getD k 0)).1)]) (i,(edge es (ls[i].2.2.getD k 0)).2)->d=320 from fun k hk h=>by
   rw [<- HWG.out] at h hk;exact HD3.out (by have h':=no_second hiw hk h;rw [HWL.out] at h';exact h'))
  have HNX:=hd_ (show wTo es ways (i+1)=wTo es ways i++tch es i ls[i].2.2∧eWo es ways (i+1)=eWo es ways i++wayE es ls[i].2.2 by rw [<- HWG.out];exact ⟨rfl,rfl⟩)
  have HLEN:=hd_ (show ∀ k,(eWo es ways i++wayE es (ls[i].2.2.take k)).length<=1000000∧(wTo es ways i++tch es i (ls[i].2.2.take k)).length<=2000000 from fun k=>by
   have h1:=eWo_len (es:=es) (k:=k) hiw
   rw [HWG.out] at h1
   have h2:=HSUM.out
   refine ⟨by omega,?_⟩
   rw [List.length_append,wTo_len,tch_len]
   rw [List.length_append] at h1
   omega)
  have HGD:=hd_ (show ∀ m:Int,good i m↔(tr.getD m.toNat false=true∨m ∈ ws[i].2.2.2∨ws[i].1=m) from fun m=>by rw [<- HGOOD.out];unfold goodW;rw [wpl_get hil])
  have hlb:=HLB.out _ (List.getElem_mem hib)
  have HLK:=hd_ (rise_in (HLR.out _ (List.getElem_mem hib)))
  have hrb:=HLS.out.all _ (List.getElem_mem hib)
  obtain ⟨ba,hBA,hbab,b0⟩:=HLS.out.at_ hib
  obtain ⟨g0,g1⟩:=wcells_get ws i hil
  obtain ⟨pa,hPA,hpb,e0,e1⟩:=(HI.out.row).two g0 g1
  have hea:=HI.out.all _ (List.getElem_mem hil)
  have hll:=HF.out.l hil
  generalize ws[i]'hil=y at e0 e1 hea hll HGD
  obtain ⟨f,yA,yc,l⟩:=y
  generalize ls[i]'hib=z at b0 hlb hrb HLK HNF HNS HNX HWG HLEN
  obtain ⟨zA,zc,lb⟩:=z
  simp only [slv] at e0 e1 b0 hea hll hlb hrb HGD HLK HNF HNS HNX HLEN
  obtain ⟨q,hq⟩:∃ q,l.length=q:=⟨_,rfl⟩
  have HQL:=hd_ hq
  rw [hq] at e1 hll hea
  obtain ⟨r,hr⟩:∃ r,lb.length=r:=⟨_,rfl⟩
  have HRL:=hd_ hr
  rw [hr] at b0 hlb hrb
  have HEA:=hd_ hea
  have HRB:=hd_ hrb
  rw [hPA,hBA]
  obtain ⟨gy,hgy⟩:∃ p,pa.add (i*2)=p:=⟨_,rfl⟩
  have hgyb:gy.block<w.heap.size:=by rw [<- hgy,add_block];exact hpb
  rw [hgy] at e0 e1
  obtain ⟨gz,hgz⟩:∃ p,ba.add i=p:=⟨_,rfl⟩
  have hgzb:gz.block<w.heap.size:=by rw [<- hgz,add_block];exact hbab
  rw [hgz] at b0
  have HS:=hd_ (show ∀ W':World,Chg w8 W' (fun k=>k=gm∨k=gr)->(W'.cell? gy=some (.int .i64 f)∧W'.cell? ⟨gy.block,gy.off+1,none⟩=some (.slice yA q yc)∧W'.cell? gz=some (.slice zA r zc)) from fun W' hW=>⟨((HQ.out _ hW).cell hgyb).trans e0,((HQ.out _ hW).cell (p:=⟨gy.block,gy.off+1,none⟩) hgyb).trans e1,((HQ.out _ hW).cell hgzb).trans b0⟩)
  have b0:=(HS.out _ SS.out.chg).2.2
  clear hPA hBA hq hr e0 e1 hea hrb hpb hbab hgyb hgzb HWG g0 g1 hil hib hiw
  go_wp2_with fail
  go_loopw [58] (fun v58 wx=>∃ k:Nat,k<=r∧v58=.int .i64 (k:Int)∧ChkS w8 gm gr (wTo es ways i++tch es i (lb.take k)) (eWo es ways i++wayE es (lb.take k)) wx∧Hid (ApartP good (wTo es ways i++tch es i (lb.take k)))) (fun v58 _=>r-(intOf v58).toNat)
  case atStart=>exact ⟨0,by omega,rfl,by simpa [tch,wayE] using SS.out,hd_ (by simpa [tch] using HO.out)⟩
  case round =>
   clear SS HO b0
   obtain ⟨k,hk,rfl,hs,HO⟩:=hrel
   have SS:=hd_ hs
   clear hs
   by_cases hkr:k<r
   case neg =>
    obtain rfl:r=k:=by omega
    have hlt:¬ (r:Int)<(r:Int):=by omega
    have HLE:=hd_ (show wTo es ways i++tch es i (lb.take r)=wTo es ways (i+1)∧eWo es ways i++wayE es (lb.take r)=eWo es ways (i+1) by rw [HNX.out.1,HNX.out.2,<- HRL.out,List.take_length];exact ⟨rfl,rfl⟩)
    go_wp2_with fail
    go_roundw
    case rel=>exact ⟨i+1,by omega,by go_num,by rw [<- HLE.out.1,<- HLE.out.2];exact SS.out,hd_ (by rw [<- HLE.out.1];exact HO.out)⟩
    case measure=>simp [intOf];omega
   have hkr':(k:Int)<(r:Int):=by omega
   have hkl:k<lb.length:=by rw [HRL.out];exact hkr
   have HTK:=hd_ (tch_next (es:=es) (i:=i) hkl)
   have HEK:=hd_ (wayE_next (es:=es) hkl)
   have HNF1:=hd_ (HNF.out k hkl)
   have HNS1:=hd_ (HNS.out k hkl)
   have hs:=HLK.out (lb.getD k 0) (by rw [List.getD_eq_getElem?_getD,List.getElem?_eq_getElem hkl];exact List.getElem_mem hkl)
   obtain ⟨za,hza,-,z0⟩:=(HRB.out.later (HQ.out _ SS.out.chg)).int (k:=k) hkr
   generalize lb.getD k 0=s at HTK HEK HNF1 HNS1 hs z0
   obtain ⟨a,b,m,hed,ha,hb,rfl,hme⟩:=edge_in G7.out.inN hs.1 (by rw [G7.out.len];exact hs.2)
   have hp2:=pc_two es hme
   rw [hed] at HNF1 HNS1 hp2 HEK
   have HTK2:=hd_ (show tch es i (lb.take (k+1))=tch es i (lb.take k)++[(i,(a:Int)),(i,(b:Int))] by rw [HTK.out];unfold tch1;rw [hed])
   have hmn:(m:Int)<(ne:Int):=by rw [<- G7.out.len];omega
   have HEC:=hd_ (show ∀ W':World,Chg w8 W' (fun k=>k=gm∨k=gr)->∃ p,AE=some p∧W'.cell? (p.add (m*2))=some (.int .i64 (a:Int))∧W'.cell? ⟨(p.add (m*2)).block,(p.add (m*2)).off+1,none⟩=some (.int .i64 (b:Int)) from fun W' hW=>by
    obtain ⟨p,h1,-,h2,h3⟩:=(G7.out.re.later (HQ7.out _ hW)).two hp2.1 hp2.2
    exact ⟨p,h1,h2,h3⟩)
   clear hp2 hed hs hme hkl HTK
   obtain ⟨L,hL⟩:∃ L,wTo es ways i++tch es i (lb.take k)=L:=⟨_,rfl⟩
   obtain ⟨E,hE⟩:∃ E,eWo es ways i++wayE es (lb.take k)=E:=⟨_,rfl⟩
   have HLN:=hd_ (HLEN.out k)
   rw [hL,hE] at HLN
   rw [hL] at SS HO HNF1 HNS1
   rw [hE] at SS
   have HLL:=hd_ (show wTo es ways i++tch es i (lb.take (k+1))=L++[(i,(a:Int)),(i,(b:Int))]∧eWo es ways i++wayE es (lb.take (k+1))=E++[((a:Int),(b:Int))] by rw [HTK2.out,HEK.out,<- List.append_assoc,<- List.append_assoc,hL,hE];exact ⟨rfl,rfl⟩)
   clear hL hE HTK2 HEK
   have x1:=(HGX.out _ SS.out.chg).cell 1
   obtain ⟨pe,hpe,s0,s1⟩:=HEC.out _ SS.out.chg
   rw [hpe] at x1
   clear hpe
   subst hza
   go_wp2_with fail
   clear x1 s0 s1 z0
   go_loopw [67] (fun v67 wx=>∃ j:Nat,j<=2∧v67=.int .i64 (j:Int)∧ChkS w8 gm gr (L++List.take j [(i,(a:Int)),(i,(b:Int))]) E wx∧Hid (ApartP good (L++List.take j [(i,(a:Int)),(i,(b:Int))]))) (fun v67 _=>2-(intOf v67).toNat)
   case atStart=>exact ⟨0,by omega,rfl,by simpa using SS.out,hd_ (by simpa using HO.out)⟩
   case round =>
    clear SS HO
    obtain ⟨j,hj,rfl,hs,HO⟩:=hrel
    obtain rfl|rfl|rfl:j=0∨j=1∨j=2:=by omega
    ·have SS:=hd_ (show ChkS w8 gm gr L E wr from by simpa using hs)
     have HO:=hd_ (show ApartP good L from by simpa using HO.out)
     clear hs
     have hxN:a<N:=ha
     have hxN':(a:Int)<(N:Int):=by omega
     have hg:=SS.out.get (n:=(a:Int)) (by omega)
     have ix:∀ W':World,(Instr.index 103 (.agg #[.int .i64 (a:Int),.int .i64 (b:Int)]) (.int .i64 0)).run Tryz.prog W'=.ok (.int .i64 (a:Int)) W':=fun _=>by kernel_rfl
     obtain ⟨wv,hwv⟩:∃ wv,(byM L (a:Int)).getD 0=wv:=⟨_,rfl⟩
     obtain ⟨sv,hsv⟩:∃ sv,(byM L (a:Int)).isSome=sv:=⟨_,rfl⟩
     have HSV0:=hd_ (show sv=false->lastT L (a:Int)=0 from fun h=>by
      rw [<- hsv] at h
      by_cases h0:lastT L (a:Int)=0
      ·exact h0
      ·rw [byM_some h0] at h;cases h)
     have HSV1:=hd_ (show sv=true->lastT L (a:Int)=wv+1 from fun h=>by
      rw [<- hsv] at h
      by_cases h0:lastT L (a:Int)=0
      ·rw [byM_none h0] at h;cases h
      ·rw [<- hwv,byM_some h0,Option.getD_some];omega)
     have HWV:=hd_ (show sv=true->wv+1≠0 from fun h=>by
      have h1:=HSV1.out h
      rw [<- hsv] at h
      by_cases h0:lastT L (a:Int)=0
      ·rw [byM_none h0] at h;cases h
      ·rw [<- h1];exact h0)
     rw [hwv,hsv] at hg
     clear hwv hsv
     obtain ⟨e0,e1,-⟩:=HS.out _ SS.out.chg
     have x0:=(HGX.out _ SS.out.chg).cell 0
     obtain ⟨ta,hta,-,t0⟩:=(G7.out.rt.later (HQ7.out _ SS.out.chg)).bool (k:=a) hxN
     rw [hta] at x0
     clear hta
     obtain ⟨tv,htv⟩:∃ tv,tr.getD a false=tv:=⟨_,rfl⟩
     rw [htv] at t0
     have HTV:=hd_ htv
     clear htv
     cases tv with
     | true =>
      obtain ⟨wn,hu,hsn⟩:=SS.out.put (by have:=HLN.out.2;simp;omega) i (by omega) (n:=(a:Int)) (by omega)
      have SN:=hd_ hsn
      clear hsn
      cases sv with
      | false =>
       have STEP:=hd_ (show lastT L (a:Int)=0∨lastT L (a:Int)=(i:Int)+1 from .inl (HSV0.out rfl))
       go_wp2_with fail
       go_roundw
       case rel=>exact ⟨1,by omega,by go_num,by rw [show L++List.take 1 [(i,(a:Int)),(i,(b:Int))]=L++[(i,(a:Int))] from rfl];exact SN.out,hd_ (by rw [show L++List.take 1 [(i,(a:Int)),(i,(b:Int))]=L++[(i,(a:Int))] from rfl];exact ApartP.next HO.out ⟨(HGD.out _).2 (.inl (by rw [Int.toNat_natCast];exact HTV.out)),STEP.out⟩)⟩
       case measure=>simp [intOf]
      | true =>
       by_cases cw:wv=(i:Int)
       ·have v1:(wv==(i:Int))=true:=by rw [cw];exact beq_self_eq_true _
        have v1':(wv != (i:Int))=false:=by rw [cw];exact bne_self_eq_false _
        have STEP:=hd_ (show lastT L (a:Int)=0∨lastT L (a:Int)=(i:Int)+1 from .inr (by rw [HSV1.out rfl,cw]))
        clear cw
        go_wp2_with fail
        go_roundw
        case rel=>exact ⟨1,by omega,by go_num,by rw [show L++List.take 1 [(i,(a:Int)),(i,(b:Int))]=L++[(i,(a:Int))] from rfl];exact SN.out,hd_ (by rw [show L++List.take 1 [(i,(a:Int)),(i,(b:Int))]=L++[(i,(a:Int))] from rfl];exact ApartP.next HO.out ⟨(HGD.out _).2 (.inl (by rw [Int.toNat_natCast];exact HTV.out)),STEP.out⟩)⟩
        case measure=>simp [intOf]
       ·have v1:(wv==(i:Int))=false:=by rw [beq_eq_false_iff_ne];exact cw
        have v1':(wv != (i:Int))=true:=by rw [bne_iff_ne];exact cw
        have hz:=hd_ (HNF1.out (fun h=>by have h2:=h.2;simp only at h2;rw [HSV1.out rfl] at h2;have h3:=HWV.out rfl;omega))
        clear cw
        go_wp2_with fail
        go_ret
        exact ⟨by rw [hz.out];rfl,HQ.out _ SS.out.chg⟩
     | false =>
      by_cases cf:f=(a:Int)
      ·have hf1:(f==(a:Int))=true:=by rw [cf];exact beq_self_eq_true _
       have HCF:=hd_ cf
       clear cf
       obtain ⟨wn,hu,hsn⟩:=SS.out.put (by have:=HLN.out.2;simp;omega) i (by omega) (n:=(a:Int)) (by omega)
       have SN:=hd_ hsn
       clear hsn
       cases sv with
       | false =>
        have STEP:=hd_ (show lastT L (a:Int)=0∨lastT L (a:Int)=(i:Int)+1 from .inl (HSV0.out rfl))
        go_wp2_with fail
        go_roundw
        case rel=>exact ⟨1,by omega,by go_num,by rw [show L++List.take 1 [(i,(a:Int)),(i,(b:Int))]=L++[(i,(a:Int))] from rfl];exact SN.out,hd_ (by rw [show L++List.take 1 [(i,(a:Int)),(i,(b:Int))]=L++[(i,(a:Int))] from rfl];exact ApartP.next HO.out ⟨(HGD.out _).2 (.inr (.inr HCF.out)),STEP.out⟩)⟩
        case measure=>simp [intOf]
       | true =>
        by_cases cw:wv=(i:Int)
        ·have v1:(wv==(i:Int))=true:=by rw [cw];exact beq_self_eq_true _
         have v1':(wv != (i:Int))=false:=by rw [cw];exact bne_self_eq_false _
         have STEP:=hd_ (show lastT L (a:Int)=0∨lastT L (a:Int)=(i:Int)+1 from .inr (by rw [HSV1.out rfl,cw]))
         clear cw
         go_wp2_with fail
         go_roundw
         case rel=>exact ⟨1,by omega,by go_num,by rw [show L++List.take 1 [(i,(a:Int)),(i,(b:Int))]=L++[(i,(a:Int))] from rfl];exact SN.out,hd_ (by rw [show L++List.take 1 [(i,(a:Int)),(i,(b:Int))]=L++[(i,(a:Int))] from rfl];exact ApartP.next HO.out ⟨(HGD.out _).2 (.inr (.inr HCF.out)),STEP.out⟩)⟩
         case measure=>simp [intOf]
        ·have v1:(wv==(i:Int))=false:=by rw [beq_eq_false_iff_ne];exact cw
         have v1':(wv != (i:Int))=true:=by rw [bne_iff_ne];exact cw
         have hz:=hd_ (HNF1.out (fun h=>by have h2:=h.2;simp only at h2;rw [HSV1.out rfl] at h2;have h3:=HWV.out rfl;omega))
         clear cw
         go_wp2_with fail
         go_ret
         exact ⟨by rw [hz.out];rfl,HQ.out _ SS.out.chg⟩
      ·have hf1:(f==(a:Int))=false:=by rw [beq_eq_false_iff_ne];exact cf
       have HCF:=hd_ cf
       clear cf
       have HOW:=hd_ (containsX_any (a:Int) yA q yc l wr (HEA.out.later (HQ.out _ SS.out.chg)) (by omega))
       obtain ⟨bo,hbo⟩:∃ bo,decide ((a:Int) ∈ l)=bo:=⟨_,rfl⟩
       rw [hbo] at HOW
       have HBO:=hd_ hbo
       clear hbo
       go_wp2_with fail
       refine HOW.out.mono ?_
       rintro e w10 ⟨rfl,hb10⟩
       have SS:=hd_ (SS.out.keep hb10)
       clear hb10 x0 e0 e1 t0 HOW hg
       cases bo with
       | false =>
        have hz:=hd_ (HNF1.out (fun h=>((HGD.out _).1 h.1).elim (fun h1=>by rw [Int.toNat_natCast,HTV.out] at h1;cases h1) (fun h1=>h1.elim (of_decide_eq_false HBO.out) HCF.out)))
        go_wp2_with fail
        go_ret
        exact ⟨by rw [hz.out];rfl,HQ.out _ SS.out.chg⟩
       | true =>
        obtain ⟨wn,hu,hsn⟩:=SS.out.put (by have:=HLN.out.2;simp;omega) i (by omega) (n:=(a:Int)) (by omega)
        have SN:=hd_ hsn
        clear hsn
        cases sv with
        | false =>
         have STEP:=hd_ (show lastT L (a:Int)=0∨lastT L (a:Int)=(i:Int)+1 from .inl (HSV0.out rfl))
         go_wp2_with fail
         go_roundw
         case rel=>exact ⟨1,by omega,by go_num,by rw [show L++List.take 1 [(i,(a:Int)),(i,(b:Int))]=L++[(i,(a:Int))] from rfl];exact SN.out,hd_ (by rw [show L++List.take 1 [(i,(a:Int)),(i,(b:Int))]=L++[(i,(a:Int))] from rfl];exact ApartP.next HO.out ⟨(HGD.out _).2 (.inr (.inl (of_decide_eq_true HBO.out))),STEP.out⟩)⟩
         case measure=>simp [intOf]
        | true =>
         by_cases cw:wv=(i:Int)
         ·have v1:(wv==(i:Int))=true:=by rw [cw];exact beq_self_eq_true _
          have v1':(wv != (i:Int))=false:=by rw [cw];exact bne_self_eq_false _
          have STEP:=hd_ (show lastT L (a:Int)=0∨lastT L (a:Int)=(i:Int)+1 from .inr (by rw [HSV1.out rfl,cw]))
          clear cw
          go_wp2_with fail
          go_roundw
          case rel=>exact ⟨1,by omega,by go_num,by rw [show L++List.take 1 [(i,(a:Int)),(i,(b:Int))]=L++[(i,(a:Int))] from rfl];exact SN.out,hd_ (by rw [show L++List.take 1 [(i,(a:Int)),(i,(b:Int))]=L++[(i,(a:Int))] from rfl];exact ApartP.next HO.out ⟨(HGD.out _).2 (.inr (.inl (of_decide_eq_true HBO.out))),STEP.out⟩)⟩
          case measure=>simp [intOf]
         ·have v1:(wv==(i:Int))=false:=by rw [beq_eq_false_iff_ne];exact cw
          have v1':(wv != (i:Int))=true:=by rw [bne_iff_ne];exact cw
          have hz:=hd_ (HNF1.out (fun h=>by have h2:=h.2;simp only at h2;rw [HSV1.out rfl] at h2;have h3:=HWV.out rfl;omega))
          clear cw
          go_wp2_with fail
          go_ret
          exact ⟨by rw [hz.out];rfl,HQ.out _ SS.out.chg⟩
    ·have SS:=hd_ (show ChkS w8 gm gr (L++[(i,(a:Int))]) E wr from by exact hs)
     have HO:=hd_ (show ApartP good (L++[(i,(a:Int))]) from by exact HO.out)
     clear hs
     have hxN:b<N:=hb
     have hxN':(b:Int)<(N:Int):=by omega
     have hg:=SS.out.get (n:=(b:Int)) (by omega)
     have ix:∀ W':World,(Instr.index 103 (.agg #[.int .i64 (a:Int),.int .i64 (b:Int)]) (.int .i64 1)).run Tryz.prog W'=.ok (.int .i64 (b:Int)) W':=fun _=>by kernel_rfl
     obtain ⟨wv,hwv⟩:∃ wv,(byM (L++[(i,(a:Int))]) (b:Int)).getD 0=wv:=⟨_,rfl⟩
     obtain ⟨sv,hsv⟩:∃ sv,(byM (L++[(i,(a:Int))]) (b:Int)).isSome=sv:=⟨_,rfl⟩
     have HSV0:=hd_ (show sv=false->lastT (L++[(i,(a:Int))]) (b:Int)=0 from fun h=>by
      rw [<- hsv] at h
      by_cases h0:lastT (L++[(i,(a:Int))]) (b:Int)=0
      ·exact h0
      ·rw [byM_some h0] at h;cases h)
     have HSV1:=hd_ (show sv=true->lastT (L++[(i,(a:Int))]) (b:Int)=wv+1 from fun h=>by
      rw [<- hsv] at h
      by_cases h0:lastT (L++[(i,(a:Int))]) (b:Int)=0
      ·rw [byM_none h0] at h;cases h
      ·rw [<- hwv,byM_some h0,Option.getD_some];omega)
     have HWV:=hd_ (show sv=true->wv+1≠0 from fun h=>by
      have h1:=HSV1.out h
      rw [<- hsv] at h
      by_cases h0:lastT (L++[(i,(a:Int))]) (b:Int)=0
      ·rw [byM_none h0] at h;cases h
      ·rw [<- h1];exact h0)
     rw [hwv,hsv] at hg
     clear hwv hsv
     obtain ⟨e0,e1,-⟩:=HS.out _ SS.out.chg
     have x0:=(HGX.out _ SS.out.chg).cell 0
     obtain ⟨ta,hta,-,t0⟩:=(G7.out.rt.later (HQ7.out _ SS.out.chg)).bool (k:=b) hxN
     rw [hta] at x0
     clear hta
     obtain ⟨tv,htv⟩:∃ tv,tr.getD b false=tv:=⟨_,rfl⟩
     rw [htv] at t0
     have HTV:=hd_ htv
     clear htv
     cases tv with
     | true =>
      obtain ⟨wn,hu,hsn⟩:=SS.out.put (by have:=HLN.out.2;simp;omega) i (by omega) (n:=(b:Int)) (by omega)
      have SN:=hd_ hsn
      clear hsn
      cases sv with
      | false =>
       have STEP:=hd_ (show lastT (L++[(i,(a:Int))]) (b:Int)=0∨lastT (L++[(i,(a:Int))]) (b:Int)=(i:Int)+1 from .inl (HSV0.out rfl))
       go_wp2_with fail
       go_roundw
       case rel=>exact ⟨2,by omega,by go_num,by rw [show L++List.take 2 [(i,(a:Int)),(i,(b:Int))]=(L++[(i,(a:Int))])++[(i,(b:Int))] from by rw [List.append_assoc];rfl];exact SN.out,hd_ (by rw [show L++List.take 2 [(i,(a:Int)),(i,(b:Int))]=(L++[(i,(a:Int))])++[(i,(b:Int))] from by rw [List.append_assoc];rfl];exact ApartP.next HO.out ⟨(HGD.out _).2 (.inl (by rw [Int.toNat_natCast];exact HTV.out)),STEP.out⟩)⟩
       case measure=>simp [intOf]
      | true =>
       by_cases cw:wv=(i:Int)
       ·have v1:(wv==(i:Int))=true:=by rw [cw];exact beq_self_eq_true _
        have v1':(wv != (i:Int))=false:=by rw [cw];exact bne_self_eq_false _
        have STEP:=hd_ (show lastT (L++[(i,(a:Int))]) (b:Int)=0∨lastT (L++[(i,(a:Int))]) (b:Int)=(i:Int)+1 from .inr (by rw [HSV1.out rfl,cw]))
        clear cw
        go_wp2_with fail
        go_roundw
        case rel=>exact ⟨2,by omega,by go_num,by rw [show L++List.take 2 [(i,(a:Int)),(i,(b:Int))]=(L++[(i,(a:Int))])++[(i,(b:Int))] from by rw [List.append_assoc];rfl];exact SN.out,hd_ (by rw [show L++List.take 2 [(i,(a:Int)),(i,(b:Int))]=(L++[(i,(a:Int))])++[(i,(b:Int))] from by rw [List.append_assoc];rfl];exact ApartP.next HO.out ⟨(HGD.out _).2 (.inl (by rw [Int.toNat_natCast];exact HTV.out)),STEP.out⟩)⟩
        case measure=>simp [intOf]
       ·have v1:(wv==(i:Int))=false:=by rw [beq_eq_false_iff_ne];exact cw
        have v1':(wv != (i:Int))=true:=by rw [bne_iff_ne];exact cw
        have hz:=hd_ (HNS1.out (fun h=>by have h2:=h.2;simp only at h2;rw [HSV1.out rfl] at h2;have h3:=HWV.out rfl;omega))
        clear cw
        go_wp2_with fail
        go_ret
        exact ⟨by rw [hz.out];rfl,HQ.out _ SS.out.chg⟩
     | false =>
      by_cases cf:f=(b:Int)
      ·have hf1:(f==(b:Int))=true:=by rw [cf];exact beq_self_eq_true _
       have HCF:=hd_ cf
       clear cf
       obtain ⟨wn,hu,hsn⟩:=SS.out.put (by have:=HLN.out.2;simp;omega) i (by omega) (n:=(b:Int)) (by omega)
       have SN:=hd_ hsn
       clear hsn
       cases sv with
       | false =>
        have STEP:=hd_ (show lastT (L++[(i,(a:Int))]) (b:Int)=0∨lastT (L++[(i,(a:Int))]) (b:Int)=(i:Int)+1 from .inl (HSV0.out rfl))
        go_wp2_with fail
        go_roundw
        case rel=>exact ⟨2,by omega,by go_num,by rw [show L++List.take 2 [(i,(a:Int)),(i,(b:Int))]=(L++[(i,(a:Int))])++[(i,(b:Int))] from by rw [List.append_assoc];rfl];exact SN.out,hd_ (by rw [show L++List.take 2 [(i,(a:Int)),(i,(b:Int))]=(L++[(i,(a:Int))])++[(i,(b:Int))] from by rw [List.append_assoc];rfl];exact ApartP.next HO.out ⟨(HGD.out _).2 (.inr (.inr HCF.out)),STEP.out⟩)⟩
        case measure=>simp [intOf]
       | true =>
        by_cases cw:wv=(i:Int)
        ·have v1:(wv==(i:Int))=true:=by rw [cw];exact beq_self_eq_true _
         have v1':(wv != (i:Int))=false:=by rw [cw];exact bne_self_eq_false _
         have STEP:=hd_ (show lastT (L++[(i,(a:Int))]) (b:Int)=0∨lastT (L++[(i,(a:Int))]) (b:Int)=(i:Int)+1 from .inr (by rw [HSV1.out rfl,cw]))
         clear cw
         go_wp2_with fail
         go_roundw
         case rel=>exact ⟨2,by omega,by go_num,by rw [show L++List.take 2 [(i,(a:Int)),(i,(b:Int))]=(L++[(i,(a:Int))])++[(i,(b:Int))] from by rw [List.append_assoc];rfl];exact SN.out,hd_ (by rw [show L++List.take 2 [(i,(a:Int)),(i,(b:Int))]=(L++[(i,(a:Int))])++[(i,(b:Int))] from by rw [List.append_assoc];rfl];exact ApartP.next HO.out ⟨(HGD.out _).2 (.inr (.inr HCF.out)),STEP.out⟩)⟩
         case measure=>simp [intOf]
        ·have v1:(wv==(i:Int))=false:=by rw [beq_eq_false_iff_ne];exact cw
         have v1':(wv != (i:Int))=true:=by rw [bne_iff_ne];exact cw
         have hz:=hd_ (HNS1.out (fun h=>by have h2:=h.2;simp only at h2;rw [HSV1.out rfl] at h2;have h3:=HWV.out rfl;omega))
         clear cw
         go_wp2_with fail
         go_ret
         exact ⟨by rw [hz.out];rfl,HQ.out _ SS.out.chg⟩
      ·have hf1:(f==(b:Int))=false:=by rw [beq_eq_false_iff_ne];exact cf
       have HCF:=hd_ cf
       clear cf
       have HOW:=hd_ (containsX_any (b:Int) yA q yc l wr (HEA.out.later (HQ.out _ SS.out.chg)) (by omega))
       obtain ⟨bo,hbo⟩:∃ bo,decide ((b:Int) ∈ l)=bo:=⟨_,rfl⟩
       rw [hbo] at HOW
       have HBO:=hd_ hbo
       clear hbo
       go_wp2_with fail
       refine HOW.out.mono ?_
       rintro e w10 ⟨rfl,hb10⟩
       have SS:=hd_ (SS.out.keep hb10)
       clear hb10 x0 e0 e1 t0 HOW hg
       cases bo with
       | false =>
        have hz:=hd_ (HNS1.out (fun h=>((HGD.out _).1 h.1).elim (fun h1=>by rw [Int.toNat_natCast,HTV.out] at h1;cases h1) (fun h1=>h1.elim (of_decide_eq_false HBO.out) HCF.out)))
        go_wp2_with fail
        go_ret
        exact ⟨by rw [hz.out];rfl,HQ.out _ SS.out.chg⟩
       | true =>
        obtain ⟨wn,hu,hsn⟩:=SS.out.put (by have:=HLN.out.2;simp;omega) i (by omega) (n:=(b:Int)) (by omega)
        have SN:=hd_ hsn
        clear hsn
        cases sv with
        | false =>
         have STEP:=hd_ (show lastT (L++[(i,(a:Int))]) (b:Int)=0∨lastT (L++[(i,(a:Int))]) (b:Int)=(i:Int)+1 from .inl (HSV0.out rfl))
         go_wp2_with fail
         go_roundw
         case rel=>exact ⟨2,by omega,by go_num,by rw [show L++List.take 2 [(i,(a:Int)),(i,(b:Int))]=(L++[(i,(a:Int))])++[(i,(b:Int))] from by rw [List.append_assoc];rfl];exact SN.out,hd_ (by rw [show L++List.take 2 [(i,(a:Int)),(i,(b:Int))]=(L++[(i,(a:Int))])++[(i,(b:Int))] from by rw [List.append_assoc];rfl];exact ApartP.next HO.out ⟨(HGD.out _).2 (.inr (.inl (of_decide_eq_true HBO.out))),STEP.out⟩)⟩
         case measure=>simp [intOf]
        | true =>
         by_cases cw:wv=(i:Int)
         ·have v1:(wv==(i:Int))=true:=by rw [cw];exact beq_self_eq_true _
          have v1':(wv != (i:Int))=false:=by rw [cw];exact bne_self_eq_false _
          have STEP:=hd_ (show lastT (L++[(i,(a:Int))]) (b:Int)=0∨lastT (L++[(i,(a:Int))]) (b:Int)=(i:Int)+1 from .inr (by rw [HSV1.out rfl,cw]))
          clear cw
          go_wp2_with fail
          go_roundw
          case rel=>exact ⟨2,by omega,by go_num,by rw [show L++List.take 2 [(i,(a:Int)),(i,(b:Int))]=(L++[(i,(a:Int))])++[(i,(b:Int))] from by rw [List.append_assoc];rfl];exact SN.out,hd_ (by rw [show L++List.take 2 [(i,(a:Int)),(i,(b:Int))]=(L++[(i,(a:Int))])++[(i,(b:Int))] from by rw [List.append_assoc];rfl];exact ApartP.next HO.out ⟨(HGD.out _).2 (.inr (.inl (of_decide_eq_true HBO.out))),STEP.out⟩)⟩
          case measure=>simp [intOf]
         ·have v1:(wv==(i:Int))=false:=by rw [beq_eq_false_iff_ne];exact cw
          have v1':(wv != (i:Int))=true:=by rw [bne_iff_ne];exact cw
          have hz:=hd_ (HNS1.out (fun h=>by have h2:=h.2;simp only at h2;rw [HSV1.out rfl] at h2;have h3:=HWV.out rfl;omega))
          clear cw
          go_wp2_with fail
          go_ret
          exact ⟨by rw [hz.out];rfl,HQ.out _ SS.out.chg⟩
    ·have SS:=hd_ (show ChkS w8 gm gr (L++[(i,(a:Int)),(i,(b:Int))]) E wr from hs)
     clear hs
     have x1:=(HGX.out _ SS.out.chg).cell 1
     have r0:=(HRX.out _ SS.out.chg).cell 0
     obtain ⟨pe,hpe,s0,s1⟩:=HEC.out _ SS.out.chg
     rw [hpe] at x1
     clear hpe
     have HSS:=hd_ (show ∀ W':World,Below wr.heap.size wr W'->(W'.cell? ⟨gt,1,none⟩=some (.slice (some pe) ne cE)∧W'.cell? ⟨gb,0,none⟩=some (.map (some gr))∧W'.cell? (pe.add (m*2))=some (.int .i64 (a:Int))∧W'.cell? ⟨(pe.add (m*2)).block,(pe.add (m*2)).off+1,none⟩=some (.int .i64 (b:Int))) from fun W' hW =>
      ⟨(hW.cell (World.block_lt_of_cell? wr _ x1)).trans x1,(hW.cell (World.block_lt_of_cell? wr _ r0)).trans r0,(hW.cell (World.block_lt_of_cell? wr _ s0)).trans s0,(hW.cell (World.block_lt_of_cell? wr _ s1)).trans s1⟩)
     have HHC:=hd_ (show ∀ W':World,Chg w8 W' (fun k=>k=gm∨k=gr)->(W'.cell? ⟨gt,1,none⟩=some (.slice (some pe) ne cE)∧W'.cell? ⟨gb,0,none⟩=some (.map (some gr))∧W'.cell? (pe.add (m*2))=some (.int .i64 (a:Int))∧W'.cell? ⟨(pe.add (m*2)).block,(pe.add (m*2)).off+1,none⟩=some (.int .i64 (b:Int))) from fun W' hW=>by
      have e1:=(HGX.out _ hW).cell 1
      have e2:=(HRX.out _ hW).cell 0
      obtain ⟨p2,h2,e3,e4⟩:=HEC.out _ hW
      obtain ⟨p1,h1,-,-⟩:=HEC.out _ SS.out.chg
      have h3:=(HGX.out _ SS.out.chg).cell 1
      have h4:Value.slice AE ne cE=.slice (some pe) ne cE:=Option.some.inj (h3.symm.trans x1)
      have h5:AE=some pe:=by injection h4
      rw [h5] at h2 e1
      obtain rfl:=Option.some.inj h2
      exact ⟨e1,e2,e3,e4⟩)
     go_upto_region 25 with (fail)
     clear x1 r0 s0 s1
     refine wp_region_held_drew (S:=(fun w'=>w'.cell? ⟨gt,1,none⟩=some (.slice (some pe) ne cE)∧w'.cell? ⟨gb,0,none⟩=some (.map (some gr))∧w'.cell? (pe.add (m*2))=some (.int .i64 (a:Int))∧w'.cell? ⟨(pe.add (m*2)).block,(pe.add (m*2)).off+1,none⟩=some (.int .i64 (b:Int)))) (by kernel_rfl) ?_ (fun hh=>?_)
     ·(first|exact HSS.out _ br_|exact HSS.out _ bd_|exact HHC.out _ S9.out.chg)
     refine tk_ 0 (⟨some 113,.load 102 (.tmp 11),102,_,#[],none⟩) (v:=?_) ?_ ?_
     rotate_left
     ·intro w hSw;(try dsimp only at hSw);go_simp;(try with_reducible rfl)
     try simp only [Act.put,la_,lz_,ls_]
     refine tk_ 1 (⟨some 114,.fieldAddr 95 (.tmp 8) 1,0,_,#[],none⟩) (v:=?_) ?_ ?_
     rotate_left
     ·intro w hSw;(try dsimp only at hSw);go_simp;(try with_reducible rfl)
     try simp only [Act.put,la_,lz_,ls_]
     refine tk_ 2 (⟨some 115,.load 57 (.tmp 114),57,_,#[⟨1,.data⟩],none⟩) (v:=?_) ?_ ?_
     rotate_left
     ·intro w hSw;(try dsimp only at hSw);go_simp;(try with_reducible rfl)
     try simp only [Act.put,la_,lz_,ls_]
     refine tk_ 3 (⟨some 116,.move (.tmp 15),3,_,#[],none⟩) (v:=?_) ?_ ?_
     rotate_left
     ·intro w hSw;(try dsimp only at hSw);go_simp;(try with_reducible rfl)
     try simp only [Act.put,la_,lz_,ls_]
     refine tk_ 4 (⟨some 117,.indexAddr 57 (.tmp 115) (.tmp 116),0,_,#[⟨2,.data⟩,⟨3,.data⟩],none⟩) (v:=?_) ?_ ?_
     rotate_left
     ·intro w hSw;(try dsimp only at hSw);go_simp;(try with_reducible rfl)
     try simp only [Act.put,la_,lz_,ls_]
     refine tk_ 5 (⟨some 118,.indexAddr 103 (.tmp 117) (.const (.int .i64 0)),0,_,#[⟨4,.data⟩],none⟩) (v:=?_) ?_ ?_
     rotate_left
     ·intro w hSw;(try dsimp only at hSw);go_simp;(try with_reducible rfl)
     try simp only [Act.put,la_,lz_,ls_]
     refine tk_ 6 (⟨some 119,.load 3 (.tmp 118),3,_,#[⟨5,.data⟩],none⟩) (v:=?_) ?_ ?_
     rotate_left
     ·intro w hSw;(try dsimp only at hSw);go_simp;(try with_reducible rfl)
     try simp only [Act.put,la_,lz_,ls_]
     refine tk_ 7 (⟨some 120,.fieldAddr 95 (.tmp 8) 1,0,_,#[],none⟩) (v:=?_) ?_ ?_
     rotate_left
     ·intro w hSw;(try dsimp only at hSw);go_simp;(try with_reducible rfl)
     try simp only [Act.put,la_,lz_,ls_]
     refine tk_ 8 (⟨some 121,.load 57 (.tmp 120),57,_,#[⟨7,.data⟩],none⟩) (v:=?_) ?_ ?_
     rotate_left
     ·intro w hSw;(try dsimp only at hSw);go_simp;(try with_reducible rfl)
     try simp only [Act.put,la_,lz_,ls_]
     refine tk_ 9 (⟨some 122,.move (.tmp 15),3,_,#[],none⟩) (v:=?_) ?_ ?_
     rotate_left
     ·intro w hSw;(try dsimp only at hSw);go_simp;(try with_reducible rfl)
     try simp only [Act.put,la_,lz_,ls_]
     refine tk_ 10 (⟨some 123,.indexAddr 57 (.tmp 121) (.tmp 122),0,_,#[⟨8,.data⟩,⟨9,.data⟩],none⟩) (v:=?_) ?_ ?_
     rotate_left
     ·intro w hSw;(try dsimp only at hSw);go_simp;(try with_reducible rfl)
     try simp only [Act.put,la_,lz_,ls_]
     refine tk_ 11 (⟨some 124,.indexAddr 103 (.tmp 123) (.const (.int .i64 1)),0,_,#[⟨10,.data⟩],none⟩) (v:=?_) ?_ ?_
     rotate_left
     ·intro w hSw;(try dsimp only at hSw);go_simp;(try with_reducible rfl)
     try simp only [Act.put,la_,lz_,ls_]
     refine tk_ 12 (⟨some 125,.load 3 (.tmp 124),3,_,#[⟨11,.data⟩],none⟩) (v:=?_) ?_ ?_
     rotate_left
     ·intro w hSw;(try dsimp only at hSw);go_simp;(try with_reducible rfl)
     try simp only [Act.put,la_,lz_,ls_]
     refine rd_ [13] ?_
     refine AllReadyH.cons (o:=⟨some 126,.call { callee:=.value (.func 61),args:=#[.tmp 113,.tmp 119,.tmp 125],argTypes:=#[102,3,3] },0,_,#[⟨0,.data⟩,⟨6,.data⟩,⟨12,.data⟩],none⟩) rfl (fun K hK=>?_) AllReadyH.nil
     go_simp
     have HJ:=hd_ ((SS.out.keep (wy:=wr.drew) bd_).join (m:=(a:Int)) (n:=(b:Int)) (by have:=HLN.out.1;omega) (by omega) (by omega))
     with_reducible refine HJ.out.mono ?_
     rintro e w11 ⟨rfl,hs9⟩
     have S9:=hd_ hs9
     clear hs9 HJ
     refine hK.out _ _ ?_ (fun hh=>?_)
     ·(first|exact HSS.out _ br_|exact HSS.out _ bd_|exact HHC.out _ S9.out.chg)
     clear hK K
     try simp only [Act.put,la_,lz_,ls_]
     refine wpAnyH_done (by kernel_rfl) ?_ _
     clear HSS HHC SS
     go_wp2_with fail
     go_roundw
     case rel=>exact ⟨k+1,by omega,by go_num,by rw [HLL.out.1,HLL.out.2];exact S9.out,hd_ (by rw [HLL.out.1];exact HO.out)⟩
     case measure=>simp [intOf];omega
end Go.Proofs.YtmkiphadkmodnaaGreat
