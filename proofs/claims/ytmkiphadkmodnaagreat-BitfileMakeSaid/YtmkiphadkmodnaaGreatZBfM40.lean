/- BfM, 40 -/
import Derived.Test.YtmkiphadkmodnaaGreatZBfM39
import Derived.Test.YtmkiphadkmodnaaGreatZBfM0
set_option linter.all false
set_option maxRecDepth 100000
set_option maxHeartbeats 8000000
namespace Go.Proofs.YtmkiphadkmodnaaGreat
open Go.RowKit Go.Maps
abbrev IntsB (w:World) (b:Nat) (nd:List Int):Prop:=Blk w b 3 (ints nd).toArray
theorem IntsB.at_ {w:World} {b:Nat} {nd:List Int} (h:IntsB w b nd) {a:Nat} (ha:a<nd.length):w.cell? ⟨b,a,none⟩=some (.int .i64 (nd.getD a 0)):=by
 rw [h.cell a]
 simp [ints,List.getD_eq_getElem?_getD,List.getElem?_eq_getElem ha]
theorem IntsB.set {w:World} {b:Nat} {nd:List Int} (h:IntsB w b nd) (a:Nat) (y:Int):IntsB (w.setCell ⟨b,a,none⟩ (.int .i64 y)) b (nd.set a y):=by
 have h':=h.put a (.int .i64 y)
 rw [List.setIfInBounds_toArray,ints_put] at h'
 exact h'
def goodW (tr:List Bool) (wl:List WP) (i:Nat) (n:Int):Prop:=tr.getD n.toNat false=true∨n ∈ (wl.getD i (0,[])).2∨(wl.getD i (0,[])).1=n
def wayl (ls:List SL):List (List Int):=ls.map fun x=>x.2.2
theorem wayl_get {ls:List SL} {i:Nat} (h:i<ls.length):(wayl ls).getD i []=ls[i].2.2:=by unfold wayl;rw [List.getD_eq_getElem?_getD,List.getElem?_map,List.getElem?_eq_getElem h];rfl
theorem wpl_get {ws:List WM} {i:Nat} (h:i<ws.length):(wpl ws).getD i (0,[])=(ws[i].1,ws[i].2.2.2):=by unfold wpl;rw [List.getD_eq_getElem?_getD,List.getElem?_map,List.getElem?_eq_getElem h];rfl
structure GridIn (w:World) (N ne cT cE:Nat) (AT AE:Option Addr) (tr:List Bool) (es:List (Int × Int)):Prop where
 rt:Rd w 1 AT N cT (bools tr)
 re:Rd w 2 AE ne cE (pc es)
 inN:∀ e ∈ es,(0<=e.1∧e.1<(N:Int))∧0<=e.2∧e.2<(N:Int)
 nN:N<=100000
 nE:ne<=10000000
theorem GridIn.later {w w':World} {N ne cT cE:Nat} {AT AE:Option Addr} {tr:List Bool} {es:List (Int × Int)} (h:GridIn w N ne cT cE AT AE tr es) (hb:Below w.heap.size w w'):GridIn w' N ne cT cE AT AE tr es:=⟨h.rt.later hb,h.re.later hb,h.inN,h.nN,h.nE⟩
theorem GridIn.len {w:World} {N ne cT cE:Nat} {AT AE:Option Addr} {tr:List Bool} {es:List (Int × Int)} (h:GridIn w N ne cT cE AT AE tr es):es.length=ne:=by
 have:=h.re.len;rw [pc_length] at this;omega
theorem rapart_any (N ne cT cE:Nat) (AT AE:Option Addr) (tr:List Bool) (es:List (Int × Int)) (vA:Value) (A B:Option Addr) (c cB:Nat) (ws:List WM) (ls:List SL) (w:World) (hG:GridIn w N ne cT cE AT AE tr es)
  (hin:WsIn w A c ws) (hf:WsFit ws) (hls:SLs w B cB ls) (hlw:ls.length=ws.length) (hlb:∀ x ∈ ls,x.2.2.length<=100000) (hlr:∀ x ∈ ls,∀ s ∈ x.2.2,0<=s∧s<(ne:Int)) (hvA:vA.cells=#[vA]) :
  Calls Tryz.prog 87 #[.agg #[.slice AT N cT,.slice AE ne cE,vA],.slice A ws.length c,.slice B ls.length cB] w fun e w'=>e=.returned (.bool (decide (ApartP (goodW tr (wpl ws)) (wTo es (wayl ls) ls.length))))∧Below w.heap.size w w':=by
 have HG:=hd_ hG
 have HI:=hd_ hin
 have HF:=hd_ hf
 have HLS:=hd_ hls
 have HLB:=hd_ hlb
 have HLR:=hd_ hlr
 obtain ⟨n,hn⟩:∃ n,ws.length=n:=⟨_,rfl⟩
 have HN:=hd_ hn
 have HM:=hd_ (hlw.trans hn)
 have hn3:n<=100000:=by rw [<- hn];exact hf.n
 have hN3:=hG.nN
 have hE3:=hG.nE
 obtain ⟨d,hd⟩:∃ d,decide (ApartP (goodW tr (wpl ws)) (wTo es (wayl ls) ls.length))=d:=⟨_,rfl⟩
 have HD:=hd_ hd
 rw [hd,hlw,hn]
 have Q0:=hd_ (bn_ w (.cells #[.slice AT N cT,.slice AE ne cE,vA] 125))
 have X0:=hd_ (Blk.made w 125 #[.slice AT N cT,.slice AE ne cE,vA])
 clear hG hin hf hls hlw hlb hlr hn hd
 obtain ⟨i0,hi0,hz0,hz1,hz2⟩:=info_parts int_infoA
 have HI0:=hd_ hi0
 have HZ0:=hd_ hz0
 have HZ1:=hd_ hz1
 have HZ2:=hd_ hz2
 clear hi0 hz0 hz1 hz2
 go_enter Tryz.func87,Tryz.ntmps87
 go_upto_region 1 with (fail)
 clear hvA
 generalize w.alloc (.cells #[.slice AT N cT,.slice AE ne cE,vA] 125)=w1 at Q0 X0 ⊢
 have hgs:w.heap.size<w1.heap.size:=X0.out.lt
 have x0:=X0.out.cell 0
 go_wp2_with ((with_reducible refine wpList_make_part _ rfl (.tmp 14) (.tmp 14) 25 rfl 3 i0 (.int .i64 0) Tryz.underlying25 HI0.out HZ0.out HZ1.out rfl .i64 .i64 _ _ N N rfl rfl (by omega) (by omega) (Nat.le_refl _) ?c1 (by omega) ?_))
 case c1=>rw [HZ2.out];omega
 intro w2 hown2 hb2
 have M0:=hd_ (show IntsB w2 w1.heap.size (byN N []) from by
  have h:=blk_of_own hown2
  rw [show List.replicate N (Value.int .i64 0)=ints (List.replicate N 0) by simp [ints],<- byN_nil] at h
  exact h)
 have Q2:=hd_ (bt_ Q0.out hb2)
 have X2:=hd_ (X0.out.keep hb2)
 clear hown2 hb2 x0 Q0 X0
 go_wp2_with fail
 generalize w1.heap.size=g at M0 hgs ⊢
 have hg2:g<w2.heap.size:=M0.out.lt
 have HX:=hd_ (show ∀ W':World,Chg w2 W' (fun k=>k=g)->Blk W' w.heap.size 125 #[.slice AT N cT,.slice AE ne cE,vA] from fun W' hW=>hW.blk X2.out (by omega))
 have HQ:=hd_ (show ∀ W':World,Chg w2 W' (fun k=>k=g)->Below w.heap.size w W' from fun W' hW=>hW.below Q2.out Q2.out.size (fun k hk=>by omega))
 obtain ⟨good,hgood⟩:∃ G,goodW tr (wpl ws)=G:=⟨_,rfl⟩
 obtain ⟨ways,hways⟩:∃ G,wayl ls=G:=⟨_,rfl⟩
 rw [hgood,hways] at HD
 have HGOOD:=hd_ hgood
 have HWAYS:=hd_ hways
 have HWL:=hd_ (show ways.length=ls.length by rw [<- hways];unfold wayl;rw [List.length_map])
 clear hgood hways
 go_loopw [8] (fun v8 wx=>∃ i:Nat,i<=n∧v8=.int .i64 (i:Int)∧IntsB wx g (byN N (wTo es ways i))∧Chg w2 wx (fun k=>k=g)∧Hid (ApartP good (wTo es ways i))) (fun v8 _=>n-(intOf v8).toNat)
 case atStart=>exact ⟨0,by omega,rfl,M0.out,Chg.refl _ _,hd_ (ApartP.nil _)⟩
 case round =>
  clear M0
  obtain ⟨i,hi,rfl,hm,hc,HO⟩:=hrel
  have MM:=hd_ hm
  have CC:=hd_ hc
  clear hm hc
  by_cases hin:i<n
  case neg =>
   obtain rfl:n=i:=by omega
   have hlt:¬ (n:Int)<(n:Int):=by omega
   have hz:=hd_ (show d=true by rw [<- HD.out,HM.out];exact decide_eq_true HO.out)
   go_wp2_with fail
   go_ret
   exact ⟨by rw [hz.out];rfl,HQ.out _ CC.out⟩
  have hin':(i:Int)<(n:Int):=by omega
  have hil:i<ws.length:=by rw [HN.out];exact hin
  have hib:i<ls.length:=by rw [HM.out];exact hin
  have HD1:=hd_ (show decide (ApartP good (wTo es ways ways.length))=d by rw [HWL.out];exact HD.out)
  have HWG:=hd_ (show ways.getD i []=ls[i].2.2 by rw [<- HWAYS.out];exact wayl_get hib)
  have HNF:=hd_ (show ∀ k,k<ls[i].2.2.length->¬ stepOk good (wTo es ways i++tch es i (ls[i].2.2.take k)) (i,(edge es (ls[i].2.2.getD k 0)).1)->d=false from fun k hk h=>by
   rw [<- HWG.out] at h hk;rw [<- HD1.out];exact decide_eq_false (no_first (by rw [HWL.out];exact hib) hk h))
  have HNS:=hd_ (show ∀ k,k<ls[i].2.2.length->¬ stepOk good (wTo es ways i++tch es i (ls[i].2.2.take k)++[(i,(edge es (ls[i].2.2.getD k 0)).1)]) (i,(edge es (ls[i].2.2.getD k 0)).2)->d=false from fun k hk h=>by
   rw [<- HWG.out] at h hk;rw [<- HD1.out];exact decide_eq_false (no_second (by rw [HWL.out];exact hib) hk h))
  have HNX:=hd_ (show wTo es ways (i+1)=wTo es ways i++tch es i ls[i].2.2 by rw [<- HWG.out];rfl)
  have HGD:=hd_ (show ∀ m:Int,good i m↔(tr.getD m.toNat false=true∨m ∈ ws[i].2.2.2∨ws[i].1=m) from fun m=>by rw [<- HGOOD.out];unfold goodW;rw [wpl_get hil])
  have hlb:=HLB.out _ (List.getElem_mem hib)
  have HLK:=hd_ (HLR.out _ (List.getElem_mem hib))
  have hrb:=HLS.out.all _ (List.getElem_mem hib)
  obtain ⟨ba,hBA,hbab,b0⟩:=HLS.out.at_ hib
  obtain ⟨g0,g1⟩:=wcells_get ws i hil
  obtain ⟨pa,hPA,hpb,e0,e1⟩:=(HI.out.row).two g0 g1
  have hea:=HI.out.all _ (List.getElem_mem hil)
  have hll:=HF.out.l hil
  generalize ws[i]'hil=y at e0 e1 hea hll HGD
  obtain ⟨f,yA,yc,l⟩:=y
  generalize ls[i]'hib=z at b0 hlb hrb HLK HNF HNS HNX HWG
  obtain ⟨zA,zc,lb⟩:=z
  simp only [slv] at e0 e1 b0 hea hll hlb hrb HGD HLK HNF HNS HNX
  obtain ⟨q,hq⟩:∃ q,l.length=q:=⟨_,rfl⟩
  have HQL:=hd_ hq
  rw [hq] at e1 hll hea
  obtain ⟨r,hr⟩:∃ r,lb.length=r:=⟨_,rfl⟩
  have HRL:=hd_ hr
  rw [hr] at b0 hlb hrb
  have HEA:=hd_ hea
  have HRB:=hd_ hrb
  rw [hPA,hBA]


  obtain ⟨ga,hga⟩:∃ p,pa.add (i*2)=p:=⟨_,rfl⟩
  have hgab:ga.block<w.heap.size:=by rw [<- hga,add_block];exact hpb
  rw [hga] at e0 e1
  obtain ⟨gb,hgb⟩:∃ p,ba.add i=p:=⟨_,rfl⟩
  have hgbb:gb.block<w.heap.size:=by rw [<- hgb,add_block];exact hbab
  rw [hgb] at b0
  have HS:=hd_ (show ∀ W':World,Chg w2 W' (fun k=>k=g)->(W'.cell? ga=some (.int .i64 f)∧W'.cell? ⟨ga.block,ga.off+1,none⟩=some (.slice yA q yc)∧W'.cell? gb=some (.slice zA r zc)) from fun W' hW=>⟨((HQ.out _ hW).cell hgab).trans e0,((HQ.out _ hW).cell (p:=⟨ga.block,ga.off+1,none⟩) hgab).trans e1,((HQ.out _ hW).cell hgbb).trans b0⟩)
  clear hPA hBA hq hr e0 e1 b0 hea hrb hpb hbab hgab hgbb HWG g0 g1 hil hib
  go_wp2_with fail
  go_loopw [9] (fun v9 wx=>∃ k:Nat,k<=r∧v9=.int .i64 (k:Int)∧IntsB wx g (byN N (wTo es ways i++tch es i (lb.take k)))∧Chg w2 wx (fun k=>k=g)∧Hid (ApartP good (wTo es ways i++tch es i (lb.take k)))) (fun v9 _=>r-(intOf v9).toNat)
  case atStart=>exact ⟨0,by omega,rfl,by simpa [tch] using MM.out,CC.out,hd_ (by simpa [tch] using HO.out)⟩
  case round =>
   clear MM CC HO
   obtain ⟨k,hk,rfl,hm,hc,HO⟩:=hrel
   have MM:=hd_ hm
   have CC:=hd_ hc
   clear hm hc
   obtain ⟨-,-,b0⟩:=HS.out _ CC.out
   by_cases hkr:k<r
   case neg =>
    obtain rfl:r=k:=by omega
    have hlt:¬ (r:Int)<(r:Int):=by omega
    have HLE:=hd_ (show wTo es ways i++tch es i (lb.take r)=wTo es ways (i+1) by rw [HNX.out,<- HRL.out,List.take_length])
    go_wp2_with fail
    go_roundw
    case rel=>exact ⟨i+1,by omega,by go_num,by rw [<- HLE.out];exact MM.out,CC.out,hd_ (by rw [<- HLE.out];exact HO.out)⟩
    case measure=>simp [intOf];omega
   have hkr':(k:Int)<(r:Int):=by omega
   have hkl:k<lb.length:=by rw [HRL.out];exact hkr
   have HTK:=hd_ (tch_next (es:=es) (i:=i) hkl)
   have HNF1:=hd_ (HNF.out k hkl)
   have HNS1:=hd_ (HNS.out k hkl)
   have hs:=HLK.out (lb.getD k 0) (by rw [List.getD_eq_getElem?_getD,List.getElem?_eq_getElem hkl];exact List.getElem_mem hkl)
   have HKC:=hd_ (show ∀ W':World,Chg w2 W' (fun k=>k=g)->∃ a,zA=some a∧W'.cell? (a.add k)=some (.int .i64 (lb.getD k 0)) from fun W' hW=>by
    obtain ⟨a,h1,-,h2⟩:=(HRB.out.later (HQ.out _ hW)).int (k:=k) hkr
    exact ⟨a,h1,h2⟩)
   generalize lb.getD k 0=s at HTK HNF1 HNS1 hs HKC
   obtain ⟨a,b,m,hed,ha,hb,rfl,hme⟩:=edge_in HG.out.inN hs.1 (by rw [HG.out.len];exact hs.2)
   have hp2:=pc_two es hme
   rw [hed] at HNF1 HNS1 hp2
   have HTK2:=hd_ (show tch es i (lb.take (k+1))=tch es i (lb.take k)++[(i,(a:Int)),(i,(b:Int))] by rw [HTK.out];unfold tch1;rw [hed])
   have hmn:(m:Int)<(ne:Int):=by rw [<- HG.out.len];omega
   have HEC:=hd_ (show ∀ W':World,Chg w2 W' (fun k=>k=g)->∃ p,AE=some p∧W'.cell? (p.add (m*2))=some (.int .i64 (a:Int))∧W'.cell? ⟨(p.add (m*2)).block,(p.add (m*2)).off+1,none⟩=some (.int .i64 (b:Int)) from fun W' hW=>by
    obtain ⟨p,h1,-,h2,h3⟩:=(HG.out.re.later (HQ.out _ hW)).two hp2.1 hp2.2
    exact ⟨p,h1,h2,h3⟩)
   clear hp2 hed hs hme hkl HTK
   obtain ⟨L,hL⟩:∃ L,wTo es ways i++tch es i (lb.take k)=L:=⟨_,rfl⟩
   rw [hL] at MM HO HNF1 HNS1
   have HLL:=hd_ (show wTo es ways i++tch es i (lb.take (k+1))=L++[(i,(a:Int)),(i,(b:Int))] by rw [HTK2.out,<- List.append_assoc,hL])
   clear hL HTK2
   go_wp2_with fail
   clear b0
   go_loopw [10] (fun v10 wx=>∃ j:Nat,j<=2∧v10=.int .i64 (j:Int)∧IntsB wx g (byN N (L++List.take j [(i,(a:Int)),(i,(b:Int))]))∧Chg w2 wx (fun k=>k=g)∧Hid (ApartP good (L++List.take j [(i,(a:Int)),(i,(b:Int))]))) (fun v10 _=>2-(intOf v10).toNat)
   case atStart=>exact ⟨0,by omega,rfl,by simpa using MM.out,CC.out,hd_ (by simpa using HO.out)⟩
   case round =>
    clear MM CC HO
    obtain ⟨j,hj,rfl,hm,hc,HO⟩:=hrel
    have CC:=hd_ hc
    clear hc
    obtain ⟨e0,e1,b0⟩:=HS.out _ CC.out
    obtain ⟨za,hza,z0⟩:=HKC.out _ CC.out
    obtain ⟨pe,hpe,s0,s1⟩:=HEC.out _ CC.out
    have XX:=hd_ (HX.out _ CC.out)
    have x0:=XX.out.cell 0
    have x1:=XX.out.cell 1
    rw [hza] at b0
    rw [hpe] at x1
    clear hza hpe
    obtain rfl|rfl|rfl:j=0∨j=1∨j=2:=by omega
    ·have M1:=hd_ (show IntsB wr g (byN N L) from by simpa using hm)
     have HO1:=hd_ (show ApartP good L from by simpa using HO.out)
     clear hm HO
     have hxN:a<N:=ha
     have hxN':(a:Int)<(N:Int):=by omega
     obtain ⟨ta,hta,-,t0⟩:=(HG.out.rt.later (HQ.out _ CC.out)).bool (k:=a) hxN
     rw [hta] at x0
     clear hta
     obtain ⟨tv,htv⟩:∃ tv,tr.getD a false=tv:=⟨_,rfl⟩
     rw [htv] at t0
     have HTV:=hd_ htv
     clear htv
     go_wp2_with fail
     refine wp_region_still_in (by kernel_rfl) (by kernel_rfl) fun St9 ne9 V9 hV9 hS9=>?_
     have qx0:=still_cell hV9 x0
     have qx1:=still_cell hV9 x1
     have qb0:=still_cell hV9 b0
     have qz0:=still_cell hV9 z0
     have qs0:=still_cell hV9 s0
     have qs1:=still_cell hV9 s1
     have qe0:=still_cell hV9 e0
     have qe1:=still_cell hV9 e1
     have qt0:=still_cell hV9 t0
     repeat (first|go_big_quiet_step (fail)|quiet_step (fail))
     refine wpQuiet_nil ?_
     intro _ hw9
     obtain ⟨s9,rfl⟩:=hw9
     have hb9:=hV9 s9
     clear qx0 qx1 qb0 qz0 qs0 qs1 qe0 qe1 qt0 hS9
     generalize V9 s9=w9 at hb9 ⊢
     clear hV9 s9 V9 ne9 St9
     have C5:=hd_ (CC.out.belowB hb9)
     have M5:=hd_ (show IntsB w9 g (byN N L) from Blk.keep M1.out hb9)
     clear x0 x1 b0 z0 s0 s1 e0 e1 t0 XX CC M1 hb9
     obtain ⟨e0,e1,b0⟩:=HS.out _ C5.out
     have XX:=hd_ (HX.out _ C5.out)
     have x0:=XX.out.cell 0
     obtain ⟨ta,hta,-,t0⟩:=(HG.out.rt.later (HQ.out _ C5.out)).bool (k:=a) hxN
     rw [HTV.out] at t0
     rw [hta] at x0
     clear hta
     cases tv with
     | true =>
      have y0:=IntsB.at_ M5.out (a:=a) (by rw [byN_len];exact hxN)
      rw [byN_get hxN] at y0
      have f0:=Blk.free M5.out a
      generalize hv:lastT L (a:Int)=v at y0
      have HV:=hd_ hv
      clear hv
      by_cases c0:v=0
      ·have v0:(v==0)=true:=by rw [c0];rfl
       have v0':(v != 0)=false:=by rw [c0];rfl
       have HC0:=hd_ c0
       clear c0
       go_wp2_with fail
       go_roundw
       case rel=>exact ⟨1,by omega,by go_num,by have h:=IntsB.set M5.out a ((i:Int)+1);rw [byN_put] at h;rw [show L++List.take 1 [(i,(a:Int)),(i,(b:Int))]=L++[(i,(a:Int))] from rfl];exact h,C5.out.setSame _,hd_ (by rw [show L++List.take 1 [(i,(a:Int)),(i,(b:Int))]=L++[(i,(a:Int))] from rfl];exact ApartP.next HO1.out ⟨(HGD.out _).2 (.inl (by rw [Int.toNat_natCast];exact HTV.out)),.inl (HV.out.trans HC0.out)⟩)⟩
       case measure=>simp [intOf]
      ·have v0:(v==0)=false:=by rw [beq_eq_false_iff_ne];exact c0
       have v0':(v != 0)=true:=by rw [bne_iff_ne];exact c0
       by_cases c1:v=(i:Int)+1
       ·have v1:(v==(i:Int)+1)=true:=by rw [c1];exact beq_self_eq_true _
        have v1':(v != (i:Int)+1)=false:=by rw [c1];exact bne_self_eq_false _
        have HC0:=hd_ c1
        clear c0 c1
        go_wp2_with fail
        go_roundw
        case rel=>exact ⟨1,by omega,by go_num,by have h:=IntsB.set M5.out a ((i:Int)+1);rw [byN_put] at h;rw [show L++List.take 1 [(i,(a:Int)),(i,(b:Int))]=L++[(i,(a:Int))] from rfl];exact h,C5.out.setSame _,hd_ (by rw [show L++List.take 1 [(i,(a:Int)),(i,(b:Int))]=L++[(i,(a:Int))] from rfl];exact ApartP.next HO1.out ⟨(HGD.out _).2 (.inl (by rw [Int.toNat_natCast];exact HTV.out)),.inr (HV.out.trans HC0.out)⟩)⟩
        case measure=>simp [intOf]
       ·have v1:(v==(i:Int)+1)=false:=by rw [beq_eq_false_iff_ne];exact c1
        have v1':(v != (i:Int)+1)=true:=by rw [bne_iff_ne];exact c1
        have hz:=hd_ (HNF1.out (fun h=>by have h2:=h.2;rw [HV.out] at h2;exact h2.elim c0 c1))
        clear c0 c1
        go_wp2_with fail
        go_ret
        exact ⟨by rw [hz.out];rfl,HQ.out _ C5.out⟩
     | false =>
      have HOW:=hd_ (rowns_any (a:Int) f yA q yc l w9 (HEA.out.later (HQ.out _ C5.out)) (by omega))
      obtain ⟨bo,hbo⟩:∃ bo,decide ((a:Int) ∈ l∨f=(a:Int))=bo:=⟨_,rfl⟩
      rw [hbo] at HOW
      have HBO:=hd_ hbo
      clear hbo
      go_wp2_with fail
      refine HOW.out.mono ?_
      rintro e w10 ⟨rfl,hb10⟩
      have C6:=hd_ (C5.out.belowB hb10)
      have M6:=hd_ (show IntsB w10 g (byN N L) from Blk.keep M5.out hb10)
      clear hb10 x0 e0 e1 b0 t0 XX C5 M5 HOW
      cases bo with
      | false =>
       have hz:=hd_ (HNF1.out (fun h=>((HGD.out _).1 h.1).elim (fun h1=>by rw [Int.toNat_natCast,HTV.out] at h1;cases h1) (of_decide_eq_false HBO.out)))
       go_wp2_with fail
       go_ret
       exact ⟨by rw [hz.out];rfl,HQ.out _ C6.out⟩
      | true =>
       have y0:=IntsB.at_ M6.out (a:=a) (by rw [byN_len];exact hxN)
       rw [byN_get hxN] at y0
       have f0:=Blk.free M6.out a
       generalize hv:lastT L (a:Int)=v at y0
       have HV:=hd_ hv
       clear hv
       by_cases c0:v=0
       ·have v0:(v==0)=true:=by rw [c0];rfl
        have v0':(v != 0)=false:=by rw [c0];rfl
        have HC0:=hd_ c0
        clear c0
        go_wp2_with fail
        go_roundw
        case rel=>exact ⟨1,by omega,by go_num,by have h:=IntsB.set M6.out a ((i:Int)+1);rw [byN_put] at h;rw [show L++List.take 1 [(i,(a:Int)),(i,(b:Int))]=L++[(i,(a:Int))] from rfl];exact h,C6.out.setSame _,hd_ (by rw [show L++List.take 1 [(i,(a:Int)),(i,(b:Int))]=L++[(i,(a:Int))] from rfl];exact ApartP.next HO1.out ⟨(HGD.out _).2 (.inr (of_decide_eq_true HBO.out)),.inl (HV.out.trans HC0.out)⟩)⟩
        case measure=>simp [intOf]
       ·have v0:(v==0)=false:=by rw [beq_eq_false_iff_ne];exact c0
        have v0':(v != 0)=true:=by rw [bne_iff_ne];exact c0
        by_cases c1:v=(i:Int)+1
        ·have v1:(v==(i:Int)+1)=true:=by rw [c1];exact beq_self_eq_true _
         have v1':(v != (i:Int)+1)=false:=by rw [c1];exact bne_self_eq_false _
         have HC0:=hd_ c1
         clear c0 c1
         go_wp2_with fail
         go_roundw
         case rel=>exact ⟨1,by omega,by go_num,by have h:=IntsB.set M6.out a ((i:Int)+1);rw [byN_put] at h;rw [show L++List.take 1 [(i,(a:Int)),(i,(b:Int))]=L++[(i,(a:Int))] from rfl];exact h,C6.out.setSame _,hd_ (by rw [show L++List.take 1 [(i,(a:Int)),(i,(b:Int))]=L++[(i,(a:Int))] from rfl];exact ApartP.next HO1.out ⟨(HGD.out _).2 (.inr (of_decide_eq_true HBO.out)),.inr (HV.out.trans HC0.out)⟩)⟩
         case measure=>simp [intOf]
        ·have v1:(v==(i:Int)+1)=false:=by rw [beq_eq_false_iff_ne];exact c1
         have v1':(v != (i:Int)+1)=true:=by rw [bne_iff_ne];exact c1
         have hz:=hd_ (HNF1.out (fun h=>by have h2:=h.2;rw [HV.out] at h2;exact h2.elim c0 c1))
         clear c0 c1
         go_wp2_with fail
         go_ret
         exact ⟨by rw [hz.out];rfl,HQ.out _ C6.out⟩
    ·have M1:=hd_ (show IntsB wr g (byN N (L++[(i,(a:Int))])) from by exact hm)
     have HO1:=hd_ (show ApartP good (L++[(i,(a:Int))]) from by exact HO.out)
     clear hm HO
     have hxN:b<N:=hb
     have hxN':(b:Int)<(N:Int):=by omega
     obtain ⟨ta,hta,-,t0⟩:=(HG.out.rt.later (HQ.out _ CC.out)).bool (k:=b) hxN
     rw [hta] at x0
     clear hta
     obtain ⟨tv,htv⟩:∃ tv,tr.getD b false=tv:=⟨_,rfl⟩
     rw [htv] at t0
     have HTV:=hd_ htv
     clear htv
     go_wp2_with fail
     refine wp_region_still_in (by kernel_rfl) (by kernel_rfl) fun St9 ne9 V9 hV9 hS9=>?_
     have qx0:=still_cell hV9 x0
     have qx1:=still_cell hV9 x1
     have qb0:=still_cell hV9 b0
     have qz0:=still_cell hV9 z0
     have qs0:=still_cell hV9 s0
     have qs1:=still_cell hV9 s1
     have qe0:=still_cell hV9 e0
     have qe1:=still_cell hV9 e1
     have qt0:=still_cell hV9 t0
     repeat (first|go_big_quiet_step (fail)|quiet_step (fail))
     refine wpQuiet_nil ?_
     intro _ hw9
     obtain ⟨s9,rfl⟩:=hw9
     have hb9:=hV9 s9
     clear qx0 qx1 qb0 qz0 qs0 qs1 qe0 qe1 qt0 hS9
     generalize V9 s9=w9 at hb9 ⊢
     clear hV9 s9 V9 ne9 St9
     have C5:=hd_ (CC.out.belowB hb9)
     have M5:=hd_ (show IntsB w9 g (byN N (L++[(i,(a:Int))])) from Blk.keep M1.out hb9)
     clear x0 x1 b0 z0 s0 s1 e0 e1 t0 XX CC M1 hb9
     obtain ⟨e0,e1,b0⟩:=HS.out _ C5.out
     have XX:=hd_ (HX.out _ C5.out)
     have x0:=XX.out.cell 0
     obtain ⟨ta,hta,-,t0⟩:=(HG.out.rt.later (HQ.out _ C5.out)).bool (k:=b) hxN
     rw [HTV.out] at t0
     rw [hta] at x0
     clear hta
     cases tv with
     | true =>
      have y0:=IntsB.at_ M5.out (a:=b) (by rw [byN_len];exact hxN)
      rw [byN_get hxN] at y0
      have f0:=Blk.free M5.out b
      generalize hv:lastT (L++[(i,(a:Int))]) (b:Int)=v at y0
      have HV:=hd_ hv
      clear hv
      by_cases c0:v=0
      ·have v0:(v==0)=true:=by rw [c0];rfl
       have v0':(v != 0)=false:=by rw [c0];rfl
       have HC0:=hd_ c0
       clear c0
       go_wp2_with fail
       go_roundw
       case rel=>exact ⟨2,by omega,by go_num,by have h:=IntsB.set M5.out b ((i:Int)+1);rw [byN_put] at h;rw [show L++List.take 2 [(i,(a:Int)),(i,(b:Int))]=(L++[(i,(a:Int))])++[(i,(b:Int))] from by rw [List.append_assoc];rfl];exact h,C5.out.setSame _,hd_ (by rw [show L++List.take 2 [(i,(a:Int)),(i,(b:Int))]=(L++[(i,(a:Int))])++[(i,(b:Int))] from by rw [List.append_assoc];rfl];exact ApartP.next HO1.out ⟨(HGD.out _).2 (.inl (by rw [Int.toNat_natCast];exact HTV.out)),.inl (HV.out.trans HC0.out)⟩)⟩
       case measure=>simp [intOf]
      ·have v0:(v==0)=false:=by rw [beq_eq_false_iff_ne];exact c0
       have v0':(v != 0)=true:=by rw [bne_iff_ne];exact c0
       by_cases c1:v=(i:Int)+1
       ·have v1:(v==(i:Int)+1)=true:=by rw [c1];exact beq_self_eq_true _
        have v1':(v != (i:Int)+1)=false:=by rw [c1];exact bne_self_eq_false _
        have HC0:=hd_ c1
        clear c0 c1
        go_wp2_with fail
        go_roundw
        case rel=>exact ⟨2,by omega,by go_num,by have h:=IntsB.set M5.out b ((i:Int)+1);rw [byN_put] at h;rw [show L++List.take 2 [(i,(a:Int)),(i,(b:Int))]=(L++[(i,(a:Int))])++[(i,(b:Int))] from by rw [List.append_assoc];rfl];exact h,C5.out.setSame _,hd_ (by rw [show L++List.take 2 [(i,(a:Int)),(i,(b:Int))]=(L++[(i,(a:Int))])++[(i,(b:Int))] from by rw [List.append_assoc];rfl];exact ApartP.next HO1.out ⟨(HGD.out _).2 (.inl (by rw [Int.toNat_natCast];exact HTV.out)),.inr (HV.out.trans HC0.out)⟩)⟩
        case measure=>simp [intOf]
       ·have v1:(v==(i:Int)+1)=false:=by rw [beq_eq_false_iff_ne];exact c1
        have v1':(v != (i:Int)+1)=true:=by rw [bne_iff_ne];exact c1
        have hz:=hd_ (HNS1.out (fun h=>by have h2:=h.2;rw [HV.out] at h2;exact h2.elim c0 c1))
        clear c0 c1
        go_wp2_with fail
        go_ret
        exact ⟨by rw [hz.out];rfl,HQ.out _ C5.out⟩
     | false =>
      have HOW:=hd_ (rowns_any (b:Int) f yA q yc l w9 (HEA.out.later (HQ.out _ C5.out)) (by omega))
      obtain ⟨bo,hbo⟩:∃ bo,decide ((b:Int) ∈ l∨f=(b:Int))=bo:=⟨_,rfl⟩
      rw [hbo] at HOW
      have HBO:=hd_ hbo
      clear hbo
      go_wp2_with fail
      refine HOW.out.mono ?_
      rintro e w10 ⟨rfl,hb10⟩
      have C6:=hd_ (C5.out.belowB hb10)
      have M6:=hd_ (show IntsB w10 g (byN N (L++[(i,(a:Int))])) from Blk.keep M5.out hb10)
      clear hb10 x0 e0 e1 b0 t0 XX C5 M5 HOW
      cases bo with
      | false =>
       have hz:=hd_ (HNS1.out (fun h=>((HGD.out _).1 h.1).elim (fun h1=>by rw [Int.toNat_natCast,HTV.out] at h1;cases h1) (of_decide_eq_false HBO.out)))
       go_wp2_with fail
       go_ret
       exact ⟨by rw [hz.out];rfl,HQ.out _ C6.out⟩
      | true =>
       have y0:=IntsB.at_ M6.out (a:=b) (by rw [byN_len];exact hxN)
       rw [byN_get hxN] at y0
       have f0:=Blk.free M6.out b
       generalize hv:lastT (L++[(i,(a:Int))]) (b:Int)=v at y0
       have HV:=hd_ hv
       clear hv
       by_cases c0:v=0
       ·have v0:(v==0)=true:=by rw [c0];rfl
        have v0':(v != 0)=false:=by rw [c0];rfl
        have HC0:=hd_ c0
        clear c0
        go_wp2_with fail
        go_roundw
        case rel=>exact ⟨2,by omega,by go_num,by have h:=IntsB.set M6.out b ((i:Int)+1);rw [byN_put] at h;rw [show L++List.take 2 [(i,(a:Int)),(i,(b:Int))]=(L++[(i,(a:Int))])++[(i,(b:Int))] from by rw [List.append_assoc];rfl];exact h,C6.out.setSame _,hd_ (by rw [show L++List.take 2 [(i,(a:Int)),(i,(b:Int))]=(L++[(i,(a:Int))])++[(i,(b:Int))] from by rw [List.append_assoc];rfl];exact ApartP.next HO1.out ⟨(HGD.out _).2 (.inr (of_decide_eq_true HBO.out)),.inl (HV.out.trans HC0.out)⟩)⟩
        case measure=>simp [intOf]
       ·have v0:(v==0)=false:=by rw [beq_eq_false_iff_ne];exact c0
        have v0':(v != 0)=true:=by rw [bne_iff_ne];exact c0
        by_cases c1:v=(i:Int)+1
        ·have v1:(v==(i:Int)+1)=true:=by rw [c1];exact beq_self_eq_true _
         have v1':(v != (i:Int)+1)=false:=by rw [c1];exact bne_self_eq_false _
         have HC0:=hd_ c1
         clear c0 c1
         go_wp2_with fail
         go_roundw
         case rel=>exact ⟨2,by omega,by go_num,by have h:=IntsB.set M6.out b ((i:Int)+1);rw [byN_put] at h;rw [show L++List.take 2 [(i,(a:Int)),(i,(b:Int))]=(L++[(i,(a:Int))])++[(i,(b:Int))] from by rw [List.append_assoc];rfl];exact h,C6.out.setSame _,hd_ (by rw [show L++List.take 2 [(i,(a:Int)),(i,(b:Int))]=(L++[(i,(a:Int))])++[(i,(b:Int))] from by rw [List.append_assoc];rfl];exact ApartP.next HO1.out ⟨(HGD.out _).2 (.inr (of_decide_eq_true HBO.out)),.inr (HV.out.trans HC0.out)⟩)⟩
         case measure=>simp [intOf]
        ·have v1:(v==(i:Int)+1)=false:=by rw [beq_eq_false_iff_ne];exact c1
         have v1':(v != (i:Int)+1)=true:=by rw [bne_iff_ne];exact c1
         have hz:=hd_ (HNS1.out (fun h=>by have h2:=h.2;rw [HV.out] at h2;exact h2.elim c0 c1))
         clear c0 c1
         go_wp2_with fail
         go_ret
         exact ⟨by rw [hz.out];rfl,HQ.out _ C6.out⟩
    ·have M1:=hd_ (show IntsB wr g (byN N (L++[(i,(a:Int)),(i,(b:Int))])) from hm)
     have HO1:=hd_ (show ApartP good (L++[(i,(a:Int)),(i,(b:Int))]) from HO.out)
     clear hm HO
     go_wp2_with fail
     go_roundw
     case rel=>exact ⟨k+1,by omega,by go_num,by rw [HLL.out];exact M1.out,CC.out,hd_ (by rw [HLL.out];exact HO1.out)⟩
     case measure=>simp [intOf];omega
inductive Jn (es:List (Int × Int)) (way:List Int) (f:Nat):Nat->Prop
 | base:Jn es way f f
 | go {a b:Nat} {s:Int}:s ∈ way->edge es s=((a:Int),(b:Int))->Jn es way f a->Jn es way f b
 | back {a b:Nat} {s:Int}:s ∈ way->edge es s=((a:Int),(b:Int))->Jn es way f b->Jn es way f a
noncomputable instance (es:List (Int × Int)) (way:List Int) (f n:Nat):Decidable (Jn es way f n):=Classical.propDecidable _
noncomputable def jb (N:Nat) (es:List (Int × Int)) (way:List Int) (f:Nat):List Bool:=(List.range N).map fun n=>decide (Jn es way f n)
theorem jb_len (N:Nat) (es:List (Int × Int)) (way:List Int) (f:Nat):(jb N es way f).length=N:=by unfold jb;rw [List.length_map,List.length_range]
theorem jb_get {N:Nat} {es:List (Int × Int)} {way:List Int} {f n:Nat} (h:n<N):(jb N es way f).getD n false=decide (Jn es way f n):=by
 unfold jb
 rw [List.getD_eq_getElem?_getD,List.getElem?_map,List.getElem?_range h]
 rfl
structure JSound (N:Nat) (es:List (Int × Int)) (way:List Int) (f:Nat) (B:List Bool):Prop where
 len:B.length=N
 from_:B.getD f false=true
 ok:∀ n,n<N->B.getD n false=true->Jn es way f n
def JClosed (es:List (Int × Int)) (way:List Int) (B:List Bool):Prop:=∀ s ∈ way,∀ a b:Nat,edge es s=((a:Int),(b:Int))->B.getD a false=B.getD b false
theorem JSound.done {N:Nat} {es:List (Int × Int)} {way:List Int} {f:Nat} {B:List Bool} (h:JSound N es way f B) (hc:JClosed es way B):B=jb N es way f:=by
 have hall:∀ n,Jn es way f n->B.getD n false=true:=by
  intro n hn
  induction hn with
  | base=>exact h.from_
  | go hs he _ ih=>rw [<- hc _ hs _ _ he];exact ih
  | back hs he _ ih=>rw [hc _ hs _ _ he];exact ih
 apply List.ext_getElem
 ·rw [h.len,jb_len]
 ·intro n h1 h2
  have hn:n<N:=by rw [<- h.len];exact h1
  have e1:B.getD n false=B[n]:=by rw [List.getD_eq_getElem?_getD,List.getElem?_eq_getElem h1];rfl
  have e2:(jb N es way f).getD n false=(jb N es way f)[n]:=by rw [List.getD_eq_getElem?_getD,List.getElem?_eq_getElem h2];rfl
  rw [<- e1,<- e2,jb_get hn]
  cases hb:B.getD n false with
  | true=>exact (decide_eq_true (h.ok n hn hb)).symm
  | false=>exact (decide_eq_false (fun hj=>by rw [hall n hj] at hb;cases hb)).symm
theorem getD_set {B:List Bool} {a n:Nat} (ha:a<B.length):(B.set a true).getD n false=if a=n then true else B.getD n false:=by
 rw [List.getD_eq_getElem?_getD,List.getElem?_set,List.getD_eq_getElem?_getD]
 by_cases h:a=n
 ·rw [if_pos h,if_pos h,if_pos ha];rfl
 ·rw [if_neg h,if_neg h]
theorem JSound.put {N:Nat} {es:List (Int × Int)} {way:List Int} {f:Nat} {B:List Bool} (h:JSound N es way f B) {a b:Nat} {s:Int} (hs:s ∈ way) (he:edge es s=((a:Int),(b:Int))) (ha:a<N) (hb:b<N) (hne:B.getD a false≠B.getD b false):JSound N es way f ((B.set a true).set b true):=by
 have hl:=h.len
 have hab:Jn es way f a∧Jn es way f b:=by
  cases h1:B.getD a false with
  | true=>have:=h.ok a ha h1;exact ⟨this,.go hs he this⟩
  | false =>
   have h2:B.getD b false=true:=by
    cases h3:B.getD b false with
    | true=>rfl
    | false=>exact absurd (h1.trans h3.symm) hne
   have:=h.ok b hb h2
   exact ⟨.back hs he this,this⟩
 have hg:∀ n,((B.set a true).set b true).getD n false=if b=n then true else if a=n then true else B.getD n false:=fun n=>by
  rw [getD_set (by rw [List.length_set,hl];exact hb),getD_set (by rw [hl];exact ha)]
 refine ⟨by rw [List.length_set,List.length_set,hl],?_,fun n hn hx=>?_⟩
 ·rw [hg];split;rfl;split;rfl;exact h.from_
 ·rw [hg] at hx
  by_cases e1:b=n
  ·subst e1;exact hab.2
  ·rw [if_neg e1] at hx
   by_cases e2:a=n
   ·subst e2;exact hab.1
   ·rw [if_neg e2] at hx;exact h.ok n hn hx
theorem falses_set {B:List Bool} {a:Nat} (ha:a<B.length):(B.set a true).count false=B.count false-(if B.getD a false=false then 1 else 0)∧(B.getD a false=false->0<B.count false):=by
 have e:B.getD a false=B[a]:=by rw [List.getD_eq_getElem?_getD,List.getElem?_eq_getElem ha];rfl
 rw [e]
 constructor
 ·rw [List.count_set ha]
  cases B[a] <;> simp
 ·intro h
  exact List.count_pos_iff.2 (by rw [<- h];exact List.getElem_mem ha)
theorem falses_put {N:Nat} {B:List Bool} (hl:B.length=N) {a b:Nat} (ha:a<N) (hb:b<N) (hne:B.getD a false≠B.getD b false):((B.set a true).set b true).count false+1<=B.count false:=by
 obtain ⟨h1,h2⟩:=falses_set (B:=B) (a:=a) (by rw [hl];exact ha)
 obtain ⟨h3,h4⟩:=falses_set (B:=B.set a true) (a:=b) (by rw [List.length_set,hl];exact hb)
 have hab:a≠b:=fun h=>hne (by rw [h])
 have e:(B.set a true).getD b false=B.getD b false:=(getD_set (by rw [hl];exact ha)).trans (if_neg hab)
 rw [e] at h3 h4
 rw [h3]
 cases h5:B.getD a false with
 | false =>
  have h7:=h2 h5
  cases h6:B.getD b false with
  | false=>exact absurd (h5.trans h6.symm) hne
  | true=>rw [h1,h5,if_pos rfl,if_neg (by simp)];omega
 | true =>
  cases h6:B.getD b false with
  | true=>exact absurd (h5.trans h6.symm) hne
  | false =>
   have h7:=h4 h6
   rw [h1,h5,if_neg (by simp)] at h7
   rw [h1,h5,if_neg (by simp),if_pos rfl]
   omega
theorem JClosed.next {es:List (Int × Int)} {way:List Int} {k:Nat} {B:List Bool} (hk:k<way.length) (h:JClosed es (way.take k) B) {a b:Nat} (he:edge es (way.getD k 0)=((a:Int),(b:Int))) (hab:B.getD a false=B.getD b false):JClosed es (way.take (k+1)) B:=by
 intro s hs a' b' he'
 rw [List.take_succ_eq_append_getElem hk] at hs
 rcases List.mem_append.1 hs with hs|hs
 ·exact h s hs a' b' he'
 ·rw [List.mem_singleton] at hs
  have e:way.getD k 0=way[k]:=by rw [List.getD_eq_getElem?_getD,List.getElem?_eq_getElem hk];rfl
  rw [hs,<- e,he] at he'
  injection he' with h1 h2
  have h1':a=a':=by omega
  have h2':b=b':=by omega
  subst h1' h2'
  exact hab
theorem JSound.start {N:Nat} {es:List (Int × Int)} {way:List Int} {f:Nat} (hf:f<N):JSound N es way f ((List.replicate N false).set f true):=by
 have hg:∀ n,((List.replicate N false).set f true).getD n false=if f=n then true else (List.replicate N false).getD n false:=fun n=>getD_set (by simpa using hf)
 refine ⟨by simp,by rw [hg,if_pos rfl],fun n hn hx=>?_⟩
 rw [hg] at hx
 by_cases e:f=n
 ·subst e;exact .base
 ·rw [if_neg e,List.getD_eq_getElem?_getD,List.getElem?_replicate,if_pos hn] at hx
  cases hx
def cntF (w:World) (g:Nat):Nat:=match w.heap[g]? with|some (.cells cs _)=>cs.toList.countP (fun v=>match v with|.bool false=>true|_=>false)|_=>0
theorem cntF_is {w:World} {g:Nat} {B:List Bool} (h:BitsB w g B):cntF w g=B.count false:=by
 unfold cntF
 have h':w.heap[g]? = some (.cells (bools B).toArray 4):=h
 rw [h']
 show List.countP _ (bools B)=_
 unfold bools
 rw [List.countP_map,List.count]
 congr 1
 funext b
 cases b <;> rfl
def tvN:Value->Nat
 | .bool true=>1
 | _=>0
def JndOut (N:Nat) (es:List (Int × Int)) (way:List Int) (f:Nat) (w:World) (e:Ending) (w':World):Prop:=∃ g,e=.returned (.slice (some ⟨g,0,none⟩) N N)∧w.heap.size<=g∧BitsB w' g (jb N es way f)∧Below w.heap.size w w'
theorem rjoined_any (N ne cT cE:Nat) (AT AE:Option Addr) (tr:List Bool) (es:List (Int × Int)) (vA:Value) (A:Option Addr) (n c:Nat) (way:List Int) (f:Nat) (w:World) (hG:GridIn w N ne cT cE AT AE tr es)
  (hr:Rd w 1 A n c (ints way)) (hn:n<=100000) (hlr:∀ s ∈ way,0<=s∧s<(ne:Int)) (hfN:f<N) (hvA:vA.cells=#[vA]) :
  Calls Tryz.prog 88 #[.agg #[.slice AT N cT,.slice AE ne cE,vA],.slice A n c,.int .i64 (f:Int)] w (JndOut N es way f w):=by
 have HG:=hd_ hG
 have HR:=hd_ hr
 have HLR:=hd_ hlr
 have HN:=hd_ (show way.length=n by have:=hr.len;rw [ints_length] at this;omega)
 have hN3:=hG.nN
 have hE3:=hG.nE
 have hfN':(f:Int)<(N:Int):=by omega
 obtain ⟨RR,hRR⟩:∃ RR,JndOut N es way f w=RR:=⟨_,rfl⟩
 have HRR:=hd_ hRR
 rw [hRR]
 have Q0:=hd_ (bn_ w (.cells #[.slice AT N cT,.slice AE ne cE,vA] 125))
 have X0:=hd_ (Blk.made w 125 #[.slice AT N cT,.slice AE ne cE,vA])
 clear hG hr hlr hRR
 obtain ⟨i0,hi0,hz0,hz1,hz2⟩:=info_parts bool_infoA
 have HI0:=hd_ hi0
 have HZ0:=hd_ hz0
 have HZ1:=hd_ hz1
 have HZ2:=hd_ hz2
 clear hi0 hz0 hz1 hz2
 go_enter Tryz.func88,Tryz.ntmps88
 go_upto_region 1 with (fail)
 clear hvA
 generalize w.alloc (.cells #[.slice AT N cT,.slice AE ne cE,vA] 125)=w1 at Q0 X0 ⊢
 have hgs:w.heap.size<w1.heap.size:=X0.out.lt
 have x0:=X0.out.cell 0
 go_wp2_with ((with_reducible refine wpList_make_part _ rfl (.tmp 13) (.tmp 13) 35 rfl 4 i0 (.bool false) Tryz.underlying35 HI0.out HZ0.out HZ1.out rfl .i64 .i64 _ _ N N rfl rfl (by omega) (by omega) (Nat.le_refl _) ?c1 (by omega) ?_))
 case c1=>rw [HZ2.out];omega
 intro w2 hown2 hb2
 have M0:=hd_ (show BitsB w2 w1.heap.size (List.replicate N false) from by
  have h:=blk_of_own hown2
  rw [show List.replicate N (Value.bool false)=bools (List.replicate N false) by simp [bools]] at h
  exact h)
 have Q2:=hd_ (bt_ Q0.out hb2)
 have X2:=hd_ (X0.out.keep hb2)
 clear hown2 hb2 x0 Q0 X0
 go_upto_region 2 with (fail)
 generalize w1.heap.size=g at M0 hgs ⊢
 have hg2:g<w2.heap.size:=M0.out.lt
 have HX:=hd_ (show ∀ W':World,Chg w2 W' (fun k=>k=g)->Blk W' w.heap.size 125 #[.slice AT N cT,.slice AE ne cE,vA] from fun W' hW=>hW.blk X2.out (by omega))
 have HQ:=hd_ (show ∀ W':World,Chg w2 W' (fun k=>k=g)->Below w.heap.size w W' from fun W' hW=>hW.below Q2.out Q2.out.size (fun k hk=>by omega))
 have b0:=BitsB.at_ M0.out (a:=f) (by rw [List.length_replicate];exact hfN)
 have f0:=Blk.free M0.out f
 have M1:=hd_ (BitsB.set M0.out f true)
 have C1:=hd_ ((Chg.refl w2 (fun k=>k=g)).setSame (g:=g) (i:=f) (.bool true))
 have hgw:w.heap.size<=g:=by omega
 go_wp2_with fail
 clear b0 f0 M0
 go_loopw [8] (fun v8 wx=>∃ (B:List Bool) (ag:Bool),v8=.bool ag∧BitsB wx g B∧Chg w2 wx (fun k=>k=g)∧Hid (JSound N es way f B)∧Hid (ag=false->JClosed es way B)) (fun v8 wx=>2*cntF wx g+tvN v8)
 case atStart=>exact ⟨_,true,rfl,M1.out,C1.out,hd_ (JSound.start hfN),hd_ (fun h=>by cases h)⟩
 case round =>
  clear M1 C1
  obtain ⟨B0,ag,rfl,hm,hc,HS0,HC0⟩:=hrel
  have MM:=hd_ hm
  have CC:=hd_ hc
  clear hm hc
  cases ag with
  | false =>
   have HB:=hd_ (HS0.out.done (HC0.out rfl))
   go_wp2_with fail
   rw [<- HRR.out]
   exact ⟨g,rfl,hgw,by rw [<- HB.out];exact MM.out,HQ.out _ CC.out⟩
  | true =>
  have HF0:=hd_ (cntF_is MM.out)
  obtain ⟨F0,hF0⟩:∃ F0,cntF wr g=F0:=⟨_,rfl⟩
  rw [hF0] at HF0
  have HFE:=hd_ hF0
  clear hF0
  go_wp2_with fail
  go_loopw [9,8] (fun v9 v8 wx=>∃ (k:Nat) (B:List Bool) (ag:Bool),k<=n∧v9=.int .i64 (k:Int)∧v8=.bool ag∧BitsB wx g B∧Chg w2 wx (fun k=>k=g)∧Hid (JSound N es way f B)∧Hid (ag=false->JClosed es (way.take k) B)∧Hid (B.count false+ag.toNat<=F0)) (fun v9 _ _=>n-(intOf v9).toNat)
  case atStart=>exact ⟨0,B0,false,by omega,rfl,rfl,MM.out,CC.out,HS0,hd_ (fun _ s hs=>by simp at hs),hd_ (by rw [HF0.out];simp)⟩
  case round =>
   clear MM CC
   obtain ⟨k,B,ag,hk,rfl,rfl,hm,hc,HS,HC,HF⟩:=hrel
   have MM:=hd_ hm
   have CC:=hd_ hc
   clear hm hc
   by_cases hkn:k<n
   case neg =>
    obtain rfl:n=k:=by omega
    have hlt:¬ (n:Int)<(n:Int):=by omega
    have HCT:=hd_ (cntF_is MM.out)
    go_wp2_with fail
    go_roundw
    case rel=>exact ⟨B,ag,rfl,MM.out,CC.out,HS,hd_ (fun h=>by have:=HC.out h;rw [<- HN.out,List.take_length] at this;exact this)⟩
    case measure =>
     have h1:=HF.out
     rw [HCT.out,HFE.out]
     cases ag <;> simp [tvN] at h1 ⊢ <;> omega
   have hkn':(k:Int)<(n:Int):=by omega
   have hkl:k<way.length:=by rw [HN.out];exact hkn
   have hmem:way.getD k 0 ∈ way:=by rw [List.getD_eq_getElem?_getD,List.getElem?_eq_getElem hkl];exact List.getElem_mem hkl
   have HCN:=hd_ (fun (B:List Bool) (h:JClosed es (way.take k) B) (a b:Nat) (he:edge es (way.getD k 0)=((a:Int),(b:Int))) (hab:B.getD a false=B.getD b false)=>JClosed.next hkl h he hab)
   have HSP:=hd_ (fun (B:List Bool) (h:JSound N es way f B) (a b:Nat) (he:edge es (way.getD k 0)=((a:Int),(b:Int)))=>h.put hmem he)
   have hs:=HLR.out _ hmem
   obtain ⟨za,hza,-,z0⟩:=(HR.out.later (HQ.out _ CC.out)).int (k:=k) hkn
   generalize way.getD k 0=s at HCN HSP hs z0
   obtain ⟨a,b,m,hed,ha,hb,rfl,hme⟩:=edge_in HG.out.inN hs.1 (by rw [HG.out.len];exact hs.2)
   have hp2:=pc_two es hme
   rw [hed] at hp2
   have HCN1:=hd_ (fun (h:JClosed es (way.take k) B) (hab:B.getD a false=B.getD b false)=>HCN.out B h a b hed hab)
   have HSP1:=hd_ (HSP.out B HS.out a b hed ha hb)
   have hmn:(m:Int)<(ne:Int):=by rw [<- HG.out.len];omega
   obtain ⟨pe,hpe,-,s0,s1⟩:=(HG.out.re.later (HQ.out _ CC.out)).two hp2.1 hp2.2
   have XX:=hd_ (HX.out _ CC.out)
   have x1:=XX.out.cell 1
   rw [hpe] at x1
   rw [hza]
   clear hp2 hed hs hme hkl hmem HCN HSP hza hpe
   have haN:(a:Int)<(N:Int):=by omega
   have hbN:(b:Int)<(N:Int):=by omega
   have HSS:=hd_ (show ∀ W':World,Below wr.heap.size wr W'->(W'.cell? ⟨w.heap.size,1,none⟩=some (.slice (some pe) ne cE)∧W'.cell? (za.add k)=some (.int .i64 (m:Int))∧W'.cell? (pe.add (m*2))=some (.int .i64 (a:Int))∧W'.cell? ⟨(pe.add (m*2)).block,(pe.add (m*2)).off+1,none⟩=some (.int .i64 (b:Int))) from fun W' hW =>
    ⟨(hW.cell (World.block_lt_of_cell? wr _ x1)).trans x1,(hW.cell (World.block_lt_of_cell? wr _ z0)).trans z0,(hW.cell (World.block_lt_of_cell? wr _ s0)).trans s0,(hW.cell (World.block_lt_of_cell? wr _ s1)).trans s1⟩)
   go_upto_region 9 with (fail)
   clear x1 z0 s0 s1
   refine wp_region_held_drew (S:=(fun w'=>w'.cell? ⟨w.heap.size,1,none⟩=some (.slice (some pe) ne cE)∧w'.cell? (za.add k)=some (.int .i64 (m:Int))∧w'.cell? (pe.add (m*2))=some (.int .i64 (a:Int))∧w'.cell? ⟨(pe.add (m*2)).block,(pe.add (m*2)).off+1,none⟩=some (.int .i64 (b:Int)))) (by kernel_rfl) ?_ (fun hh=>?_)
   ·(first|exact HSS.out _ br_|exact HSS.out _ bd_|exact HSS.out _ (bt_ bd_ (bn_ _ _))|exact HSS.out _ B9.out)
   refine tk_ 0 (⟨some 25,.fieldAddr 125 (.tmp 3) 1,0,_,#[],none⟩) (v:=?_) ?_ ?_
   rotate_left
   ·intro w hSw;(try dsimp only at hSw);go_simp;(try with_reducible rfl)
   try simp only [Act.put,la_,lz_,ls_]
   refine tk_ 1 (⟨some 26,.load 57 (.tmp 25),57,_,#[⟨0,.data⟩],none⟩) (v:=?_) ?_ ?_
   rotate_left
   ·intro w hSw;(try dsimp only at hSw);go_simp;(try with_reducible rfl)
   try simp only [Act.put,la_,lz_,ls_]
   refine tk_ 2 (⟨some 27,.move (.tmp 1),25,_,#[],none⟩) (v:=?_) ?_ ?_
   rotate_left
   ·intro w hSw;(try dsimp only at hSw);go_simp;(try with_reducible rfl)
   try simp only [Act.put,la_,lz_,ls_]
   refine tk_ 3 (⟨some 28,.move (.tmp 9),3,_,#[],none⟩) (v:=?_) ?_ ?_
   rotate_left
   ·intro w hSw;(try dsimp only at hSw);go_simp;(try with_reducible rfl)
   try simp only [Act.put,la_,lz_,ls_]
   refine tk_ 4 (⟨some 29,.indexAddr 25 (.tmp 27) (.tmp 28),0,_,#[⟨2,.data⟩,⟨3,.data⟩],none⟩) (v:=?_) ?_ ?_
   rotate_left
   ·intro w hSw;(try dsimp only at hSw);go_simp;(try with_reducible rfl)
   try simp only [Act.put,la_,lz_,ls_]
   refine tk_ 5 (⟨some 30,.load 3 (.tmp 29),3,_,#[⟨4,.data⟩],none⟩) (v:=?_) ?_ ?_
   rotate_left
   ·intro w hSw;(try dsimp only at hSw);go_simp;(try with_reducible rfl)
   try simp only [Act.put,la_,lz_,ls_]
   refine tk_ 6 (⟨some 31,.indexAddr 57 (.tmp 26) (.tmp 30),0,_,#[⟨1,.data⟩,⟨5,.data⟩],none⟩) (v:=?_) ?_ ?_
   rotate_left
   ·intro w hSw;(try dsimp only at hSw);go_simp;(try with_reducible rfl)
   try simp only [Act.put,la_,lz_,ls_]
   refine tk_ 7 (⟨some 32,.load 103 (.tmp 31),103,_,#[⟨6,.data⟩],none⟩) (v:=?_) ?_ ?_
   rotate_left
   ·intro w hSw;(try dsimp only at hSw);go_simp;(try with_reducible rfl)
   try simp only [Act.put,la_,lz_,ls_]
   refine rd_ [8] ?_
   refine AllReadyH.cons (o:=⟨some 10,.alloc 103,0,_,#[],none⟩) rfl (fun K hK=>?_) AllReadyH.nil
   go_simp
   refine hK.out _ _ ?_ (fun hh=>?_)
   ·(first|exact HSS.out _ br_|exact HSS.out _ bd_|exact HSS.out _ (bt_ bd_ (bn_ _ _))|exact HSS.out _ B9.out)
   clear hK K
   try simp only [Act.put,la_,lz_,ls_]
   refine rd_ [9] ?_
   refine AllReadyH.cons (o:=⟨none,.store 103 (.tmp 10) (.tmp 32),0,_,#[⟨8,.data⟩,⟨7,.data⟩,⟨0,.phase⟩,⟨1,.phase⟩,⟨2,.phase⟩,⟨3,.phase⟩,⟨4,.phase⟩,⟨5,.phase⟩,⟨6,.phase⟩,⟨7,.phase⟩,⟨8,.phase⟩],none⟩) rfl (fun K hK=>?_) AllReadyH.nil
   go_simp
   refine hK.out _ _ ?_ (fun hh=>?_)
   ·(first|exact HSS.out _ br_|exact HSS.out _ bd_|exact HSS.out _ (bt_ bd_ (bn_ _ _))|exact HSS.out _ B9.out)
   clear hK K
   try simp only [Act.put,la_,lz_,ls_]
   refine wpAnyH_done (by kernel_rfl) ?_ _
   have B9:=hd_ (show Below wr.heap.size wr ((wr.alloc (.cells #[.int .i64 (a:Int),.int .i64 (b:Int)] 103)).drew) from bt_ (bn_ wr _) bd_)
   have BX:=hd_ (show Blk ((wr.alloc (.cells #[.int .i64 (a:Int),.int .i64 (b:Int)] 103)).drew) wr.heap.size 103 #[.int .i64 (a:Int),.int .i64 (b:Int)] from (Blk.made wr _ _).keep bd_)
   have hgr:g<wr.heap.size:=MM.out.lt
   have C5:=hd_ (CC.out.belowB B9.out)
   have M5:=hd_ (show BitsB _ g B from Blk.keep MM.out B9.out)
   clear HSS XX B9 MM CC
   generalize (wr.alloc (.cells #[.int .i64 (a:Int),.int .i64 (b:Int)] 103)).drew=w9 at BX C5 M5 ⊢
   generalize wr.heap.size=gx at BX hgr ⊢
   have hlB:=HS.out.len
   have ba:=BitsB.at_ M5.out (a:=a) (by rw [hlB];exact ha)
   have bb:=BitsB.at_ M5.out (a:=b) (by rw [hlB];exact hb)
   have p0:=BX.out.cell 0
   have p1:=BX.out.cell 1
   obtain ⟨u,hu⟩:∃ u,B.getD a false=u:=⟨_,rfl⟩
   obtain ⟨v,hv⟩:∃ v,B.getD b false=v:=⟨_,rfl⟩
   rw [hu] at ba
   rw [hv] at bb
   have HU:=hd_ hu
   have HV:=hd_ hv
   clear hu hv hlB
   go_wp2_with fail
   refine wp_region_still_in (by kernel_rfl) (by kernel_rfl) fun St8 ne8 V8 hV8 hS8=>?_
   have qp0:=still_cell hV8 p0
   have qp1:=still_cell hV8 p1
   have qba:=still_cell hV8 ba
   have qbb:=still_cell hV8 bb
   repeat (first|go_big_quiet_step (fail)|quiet_step (fail))
   refine wpQuiet_nil ?_
   intro _ hw8
   obtain ⟨s8,rfl⟩:=hw8
   have hb8:=hV8 s8
   clear qp0 qp1 qba qbb hS8
   generalize V8 s8=w8 at hb8 ⊢
   clear hV8 s8 V8 ne8 St8
   have C6:=hd_ (C5.out.belowB hb8)
   have M6:=hd_ (show BitsB w8 g B from Blk.keep M5.out hb8)
   have X6:=hd_ (BX.out.keep hb8)
   clear p0 p1 ba bb hb8 C5 M5 BX
   by_cases huv:u=v
   ·have HEQ:=hd_ (show B.getD a false=B.getD b false by rw [HU.out,HV.out,huv])
    cases huv
    cases u
    all_goals
     go_wp2_with fail
     go_roundw
     case rel=>exact ⟨k+1,B,ag,by omega,by go_num,rfl,M6.out,C6.out,HS,hd_ (fun h=>HCN1.out (HC.out h) HEQ.out),HF⟩
     case measure=>simp [intOf];omega
   have HNE:=hd_ (show B.getD a false≠B.getD b false by rw [HU.out,HV.out];exact huv)
   have HFL:=hd_ (show ((B.set a true).set b true).count false+(true).toNat<=F0 by have h1:=falses_put HS.out.len ha hb HNE.out;have h2:=HF.out;rw [Bool.toNat_true];omega)
   have p0:=X6.out.cell 0
   have p1:=X6.out.cell 1
   have ba:=BitsB.at_ M6.out (a:=a) (by rw [HS.out.len];exact ha)
   have f0:=Blk.free M6.out a
   have M7:=hd_ (BitsB.set M6.out a true)
   have bb:=BitsB.at_ M7.out (a:=b) (by rw [List.length_set,HS.out.len];exact hb)
   have f1:=Blk.free M7.out b
   have hgx8:=X6.out.lt
   have p7:=((Chg.set w8 g a (.bool true)).cellAt (p:=⟨gx,1,none⟩) hgx8 (by show ¬ gx=g;omega)).trans p1
   cases u <;> cases v
   ·exact absurd rfl huv
   ·clear huv
    go_wp2_with fail
    go_roundw
    case rel=>exact ⟨k+1,_,true,by omega,by go_num,rfl,BitsB.set M7.out b true,(C6.out.setSame _).setSame _,hd_ (HSP1.out HNE.out),hd_ (fun h=>by cases h),HFL⟩
    case measure=>simp [intOf];omega
   ·clear huv
    go_wp2_with fail
    go_roundw
    case rel=>exact ⟨k+1,_,true,by omega,by go_num,rfl,BitsB.set M7.out b true,(C6.out.setSame _).setSame _,hd_ (HSP1.out HNE.out),hd_ (fun h=>by cases h),HFL⟩
    case measure=>simp [intOf];omega
   ·exact absurd rfl huv
end Go.Proofs.YtmkiphadkmodnaaGreat
