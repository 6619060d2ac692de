/- BfM, 43 -/
import Derived.Test.YtmkiphadkmodnaaGreatZBfM33
import Derived.Test.YtmkiphadkmodnaaGreatZBfM39
import Derived.Test.YtmkiphadkmodnaaGreatZBfM42
import Derived.Test.YtmkiphadkmodnaaGreatZBfM9
import Derived.Test.YtmkiphadkmodnaaGreatZBfM0
set_option linter.all false
set_option maxRecDepth 100000
set_option maxHeartbeats 8000000
namespace Go.Proofs.YtmkiphadkmodnaaGreat
open Go.RowKit Go.Maps
def tlOf (b:BL):TL:=((sprd b:Int),b.ff,b.it)
def tlAt (bs:List BL) (i:Nat):TL:=match bs[i]? with|some b=>tlOf b|none=>(0,false,false)
theorem tlAt_get {bs:List BL} {i:Nat} (h:i<bs.length):tlAt bs i=tlOf bs[i]:=by unfold tlAt;rw [List.getElem?_eq_getElem h]
def tilesTo (n:Nat) (bs:List BL) (sb:List Int):Nat->List TL
 | 0=>List.replicate n (0,false,false)
 | i+1=>(tilesTo n bs sb i).set (sb.getD i 0).toNat (tlAt bs i)
theorem tilesTo_len (n:Nat) (bs:List BL) (sb:List Int):∀ i,(tilesTo n bs sb i).length=n
 | 0=>by simp [tilesTo]
 | i+1=>by rw [tilesTo,List.length_set,tilesTo_len n bs sb i]
def onTo (ne:Nat) (l:List Int):List Bool:=l.foldl (fun L s=>L.set s.toNat true) (List.replicate ne false)
theorem onTo_snoc (ne:Nat) (l:List Int) (s:Int):onTo ne (l++[s])=(onTo ne l).set s.toNat true:=by unfold onTo;rw [List.foldl_append];rfl
theorem onTo_len (ne:Nat) (l:List Int):(onTo ne l).length=ne:=by
 unfold onTo
 have:∀ (l:List Int) (B:List Bool),(l.foldl (fun L s=>L.set s.toNat true) B).length=B.length:=fun l=>by
  induction l with
  | nil=>intro B;rfl
  | cons s l ih=>intro B;rw [List.foldl_cons,ih,List.length_set]
 rw [this,List.length_replicate]
theorem tiles3_none (n:Nat):(madeCells #[.int .i64 0,.bool false,.bool false] (n*3)).toList=tiles3 (List.replicate n (0,false,false)):=by
 apply List.ext_getElem?
 intro i
 rw [Array.getElem?_toList]
 by_cases h:i<n*3
 ·obtain ⟨q,hq⟩:∃ q,i/3=q:=⟨_,rfl⟩
  have hk:q<(List.replicate n ((0,false,false):TL)).length:=by simp;omega
  obtain ⟨h0,h1,h2⟩:=tiles3_get (List.replicate n ((0,false,false):TL)) q hk
  have hg:(List.replicate n ((0,false,false):TL))[q]! = (0,false,false):=by rw [getElem!_pos (List.replicate n ((0,false,false):TL)) q hk,List.getElem_replicate]
  rw [hg] at h0 h1 h2
  obtain hm|hm|hm:i%3=0∨i%3=1∨i%3=2:=by omega
  ·obtain rfl:i=q*3:=by omega
   rw [h0,Array.getElem?_eq_getElem (by rw [size_madeCells];exact h)];simp [madeCells]
  ·obtain rfl:i=q*3+1:=by omega
   rw [h1,Array.getElem?_eq_getElem (by rw [size_madeCells];exact h)];simp [madeCells,Nat.mul_add_mod']
  ·obtain rfl:i=q*3+2:=by omega
   rw [h2,Array.getElem?_eq_getElem (by rw [size_madeCells];exact h)];simp [madeCells,Nat.mul_add_mod']
 ·rw [List.getElem?_eq_none (by rw [tiles3_length,List.length_replicate];omega),Array.getElem?_eq_none (by rw [size_madeCells];omega)]
theorem tiles3_put (x:TL):∀ (l:List TL) (k:Nat),k<l.length->(((tiles3 l).set (k*3) (.int .i64 x.1)).set (k*3+1) (.bool x.2.1)).set (k*3+2) (.bool x.2.2)=tiles3 (l.set k x)
 | [],k,h=>by simp at h
 | t::l,0,_=>by simp [tiles3]
 | t::l,k+1,h=>by
  have ih:=tiles3_put x l k (by simpa using h)
  have e:∀ t l,tiles3 (t::l)=[.int .i64 t.1,.bool t.2.1,.bool t.2.2]++tiles3 l:=fun _ _=>rfl
  have e3:∀ (A:List Value),A.length=3->∀ (L:List Value) (j:Nat) (v:Value),(A++L).set (j+3) v=A++L.set j v:=fun A hA L j v=>by
   rw [List.set_append_right _ _ (by omega),hA,Nat.add_sub_cancel]
  rw [e,show (k+1)*3=k*3+3 by omega,e3 _ rfl,show k*3+3+1=k*3+1+3 by omega,e3 _ rfl,show k*3+3+2=k*3+2+3 by omega,e3 _ rfl,ih]
  rfl
abbrev TilesB (w:World) (b:Nat) (L:List TL):Prop:=Blk w b 65 (tiles3 L).toArray
theorem TilesB.set {w:World} {b:Nat} {L:List TL} (h:TilesB w b L) {k:Nat} (hk:k<L.length) (x:TL) :
  TilesB (((w.setCell ⟨b,k*3,none⟩ (.int .i64 x.1)).setCell ⟨b,k*3+1,none⟩ (.bool x.2.1)).setCell ⟨b,k*3+2,none⟩ (.bool x.2.2)) b (L.set k x):=by
 have h1:=((Blk.put h (k*3) (.int .i64 x.1)).put (k*3+1) (.bool x.2.1)).put (k*3+2) (.bool x.2.2)
 have e:(((tiles3 L).toArray.setIfInBounds (k*3) (.int .i64 x.1)).setIfInBounds (k*3+1) (.bool x.2.1)).setIfInBounds (k*3+2) (.bool x.2.2)=(tiles3 (L.set k x)).toArray:=by
  rw [<- tiles3_put x L k hk]
  simp
 rw [e] at h1
 exact h1
theorem TilesB.cells {w:World} {b:Nat} {L:List TL} (h:TilesB w b L) {k:Nat} (hk:k<L.length):w.cell? ⟨b,k*3,none⟩=some (.int .i64 (L[k]!).1)∧w.cell? ⟨b,k*3+1,none⟩=some (.bool (L[k]!).2.1)∧w.cell? ⟨b,k*3+2,none⟩=some (.bool (L[k]!).2.2):=by
 obtain ⟨h0,h1,h2⟩:=tiles3_get L k hk
 refine ⟨?_,?_,?_⟩ <;> rw [Blk.cell h,List.getElem?_toArray] <;> assumption
def cfgN:Cfg:=⟨0,0,0,none,0,[],none,0,[],none,0,[],none,0,[]⟩
theorem cfgN_in (w:World):cfgN.In w:=⟨Rd.empty,Rd.empty,Rd.empty,Rd.empty⟩
structure MkY (W H T:Int) (P:PK) (S:SPT) (wy:List (List Int)) (C:Cfg):Prop where
 d:C.W=W∧C.H=H∧C.T=T
 t:C.tiles=tilesTo (W*H).toNat P.bs S.sb P.bs.length
 o:C.on=onTo (edgesL W H T).length wy.flatten
 i:C.ins=S.si
 u:C.outs=S.so
def MkR (W H T:Int) (P:PK) (S:SPT) (wy:List (List Int)) (C:Cfg) (x:Int):Prop :=
 (x≠0∧C=cfgN∧(PlcR W H T P S x∨(PlcR W H T P S 0∧chk30 W H T (wiresP W H T P S) wy=x)))∨(x=0∧PlcR W H T P S 0∧chk30 W H T (wiresP W H T P S) wy=0∧MkY W H T P S wy C)
theorem MkR.one {W H T:Int} {P:PK} {S:SPT} {wy:List (List Int)} {C D:Cfg} {x y:Int} (h:MkR W H T P S wy C x) (k:MkR W H T P S wy D y):x=y∧sameP C D:=by
 rcases h with ⟨h0,hC,h1⟩|⟨h0,h1,h2,h3⟩ <;> rcases k with ⟨k0,kC,k1⟩|⟨k0,k1,k2,k3⟩
 ·subst hC kC
  refine ⟨?_,⟨rfl,rfl,rfl⟩,rfl,rfl,rfl,rfl⟩
  rcases h1 with h1|⟨h1,h2⟩ <;> rcases k1 with k1|⟨k1,k2⟩
  ·exact h1.one k1
  ·exact absurd (h1.one k1) h0
  ·exact absurd (k1.one h1) k0
  ·rw [<- h2,<- k2]
 ·rcases h1 with h1|⟨h1,h2⟩
  ·exact absurd (h1.one k1) h0
  ·exact absurd (h2.symm.trans k2) h0
 ·rcases k1 with k1|⟨k1,h2'⟩
  ·exact absurd (k1.one h1) k0
  ·exact absurd (h2'.symm.trans h2) k0
 ·exact ⟨by rw [h0,k0],⟨by rw [h3.d.1,k3.d.1],by rw [h3.d.2.1,k3.d.2.1],by rw [h3.d.2.2,k3.d.2.2]⟩,by rw [h3.t,k3.t],by rw [h3.o,k3.o],by rw [h3.i,k3.i],by rw [h3.u,k3.u]⟩
def MkOut (W H T:Int) (P:PK) (S:SPT) (wy:List (List Int)) (w:World) (e:Ending) (w':World):Prop :=
 ∃ (C:Cfg) (x:Int),e=.returned (.tuple #[.agg C.cells,.int .i64 x])∧Below w.heap.size w w'∧C.In w'∧MkR W H T P S wy C x
theorem MkR.few {W H T:Int} {P:PK} {S:SPT} {wy:List (List Int)} {C:Cfg} {x:Int} (h:MkR W H T P S wy C x) (hf:S.fit) (hE:okA W H T->(edgesL W H T).length<=50000∧(W*H).toNat<=1000):C.few:=by
 rcases h with ⟨h0,rfl,h1⟩|⟨h0,h1,h2,h3⟩
 ·exact ⟨by decide,by decide,by decide,by decide⟩
 ·have hok:=h1.ok.1
  have h4:=hE hok
  unfold Cfg.few
  rw [h3.t,h3.o,h3.i,h3.u,tilesTo_len,onTo_len]
  have:=hf.i
  have:=hf.o
  omega
theorem wayl_flat (ls:List SL):(wayl ls).flatten=cat ls:=by
 unfold wayl cat
 rw [List.flatMap_def]
theorem chk30_rise {W H T:Int} {wl:List WP} {wy:List (List Int)} (h:chk30 W H T wl wy=0):RiseAll (edgesL W H T).length wy:=by
 unfold chk30 at h
 by_cases h1:okA W H T
 ·by_cases h2:MayP W H T wl
  ·by_cases h3:wy.length=wl.length
   ·by_cases h4:RiseAll (edgesL W H T).length wy
    ·exact h4
    ·rw [if_neg (fun e=>e h1),if_neg (fun e=>e h2),if_neg (fun e=>e h3),if_pos h4] at h;cases h
   ·rw [if_neg (fun e=>e h1),if_neg (fun e=>e h2),if_pos h3] at h;cases h
  ·rw [if_neg (fun e=>e h1),if_pos h2] at h;cases h
 ·rw [if_pos h1] at h;cases h
theorem rcheck30_any (W H T:Int) (A B:Option Addr) (c cB:Nat) (ws:List WM) (ls:List SL) (w:World) (hin:WsIn w A c ws) (hf:WsFit ws) (hls:SLs w B cB ls) (hlb:∀ x ∈ ls,x.2.2.length<=100000) (hl5:ls.length<=100000) :
  Calls Tryz.prog 26 #[.agg #[.int .i64 W,.int .i64 H,.int .i64 T],.slice A ws.length c,.slice B ls.length cB] w fun e w'=>e=.returned (.int .i64 (chk30 W H T (wpl ws) (wayl ls)))∧Below w.heap.size w w':=by
 have HI:=hd_ hin
 have HF:=hd_ hf
 have HLS:=hd_ hls
 have HLB:=hd_ hlb
 have HWL:=hd_ (show (wayl ls).length=ls.length by unfold wayl;rw [List.length_map])
 have HPL:=hd_ (show (wpl ws).length=ws.length by unfold wpl;rw [List.length_map])
 have hn3:=hf.n
 obtain ⟨d,hd⟩:∃ d,chk30 W H T (wpl ws) (wayl ls)=d:=⟨_,rfl⟩
 have HD:=hd_ hd
 rw [hd]
 have Q0:=hd_ (bn_ w (.cells #[.int .i64 W,.int .i64 H,.int .i64 T] 23))
 have X0:=hd_ (Blk.made w 23 #[.int .i64 W,.int .i64 H,.int .i64 T])
 clear hin hf hls hlb hd
 obtain ⟨n,hn⟩:∃ n,ws.length=n:=⟨_,rfl⟩
 obtain ⟨m,hm⟩:∃ m,ls.length=m:=⟨_,rfl⟩
 have HN:=hd_ hn
 have HM:=hd_ hm
 rw [hn] at hn3 HPL
 rw [hm] at hl5 HWL
 rw [hn,hm]
 clear hn hm
 go_enter Tryz.func26,Tryz.ntmps26
 go_upto_region 1 with (fail)
 generalize w.alloc (.cells #[.int .i64 W,.int .i64 H,.int .i64 T] 23)=w1 at Q0 X0 ⊢
 have a0:=X0.out.cell 0
 have a1:=X0.out.cell 1
 have a2:=X0.out.cell 2
 have HCK:=hd_ (rcheck_any W H T)
 by_cases hok:okA W H T
 case neg =>
  have hz:=hd_ (show d=1 by rw [<- HD.out];unfold chk30;rw [if_pos hok])
  have hce:chkE W H T=1:=if_neg hok
  rw [hce] at HCK
  clear hce hok
  go_wp2_with fail
  refine (HCK.out _).mono ?_
  rintro e w2 ⟨rfl,hb⟩
  have B2:=hd_ (bt_ Q0.out hb)
  clear hb a0 a1 a2
  go_wp2_with fail
  go_ret
  exact ⟨by rw [hz.out];rfl,B2.out⟩
 have hce:chkE W H T=0:=if_pos hok
 rw [hce] at HCK
 have HOK:=hd_ hok
 clear hce hok
 go_wp2_with fail
 refine (HCK.out _).mono ?_
 rintro e w2 ⟨rfl,hb⟩
 have B2:=hd_ (bt_ Q0.out hb)
 have X2:=hd_ (X0.out.keep hb)
 clear hb a0 a1 a2 HCK Q0 X0
 have a0:=X2.out.cell 0
 have a1:=X2.out.cell 1
 have a2:=X2.out.cell 2
 have HMY:=hd_ (rmay30_any W H T A c ws w2 (HI.out.later B2.out) HF.out HOK.out)
 rw [HN.out] at HMY
 obtain ⟨bm,hbm⟩:∃ bm,decide (MayP W H T (wpl ws))=bm:=⟨_,rfl⟩
 rw [hbm] at HMY
 have HBM:=hd_ hbm
 clear hbm
 go_wp2_with fail
 refine HMY.out.mono ?_
 rintro e w3 ⟨rfl,hb⟩
 have B3:=hd_ (bt_ B2.out hb)
 have X3:=hd_ (X2.out.keep hb)
 clear hb a0 a1 a2 HMY B2 X2
 cases bm with
 | false =>
  have hz:=hd_ (show d=1 by rw [<- HD.out];unfold chk30;rw [if_neg (fun h=>h HOK.out),if_pos (of_decide_eq_false HBM.out)])
  go_wp2_with fail
  go_ret
  exact ⟨by rw [hz.out];rfl,B3.out⟩
 | true =>
 have HMAY:=hd_ (of_decide_eq_true HBM.out)
 by_cases hmn:m=n
 case neg =>
  have hz:=hd_ (show d=1 by rw [<- HD.out];unfold chk30;rw [if_neg (fun h=>h HOK.out),if_neg (fun h=>h HMAY.out),if_pos (by rw [HWL.out,HPL.out];exact hmn)])
  have h1:((m:Int)==(n:Int))=false:=by rw [beq_eq_false_iff_ne];omega
  have h2:((m:Int) != (n:Int))=true:=by rw [bne_iff_ne];omega
  clear hmn
  go_wp2_with fail
  go_ret
  exact ⟨by rw [hz.out];rfl,B3.out⟩
 obtain rfl:n=m:=hmn.symm
 have HD1:=hd_ (show (if ¬ RiseAll (edgesL W H T).length (wayl ls) then (1:Int)
  else if ¬ ApartP (goodW (trTo W H T (nodesI W H T).toNat) (wpl ws)) (wTo (edgesL W H T) (wayl ls) n) then 320
  else if ¬ JoinAll (edgesL W H T) (wpl ws) (wayl ls) then 300 else 0)=d by
   have h:=HD.out;unfold chk30 at h;rw [if_neg (fun h=>h HOK.out),if_neg (fun h=>h HMAY.out),if_neg (fun h=>h (by rw [HWL.out,HPL.out])),HWL.out] at h;exact h)
 clear hmn HD HBM
 have HGO:=hd_ (rgridOf_any W H T w3 HOK.out)
 have a0:=X3.out.cell 0
 have a1:=X3.out.cell 1
 have a2:=X3.out.cell 2
 go_wp2_with fail
 refine HGO.out.mono ?_
 clear a0 a1 a2 HGO X3
 rintro e w4 ⟨AT,AE,cT,cE,vA,N,rfl,hb,hG,hNN,-,ga,cA,f9,rs9,rfl,-,-⟩
 rw [hNN,Int.toNat_natCast] at HD1
 have HNN:=hd_ hNN
 have B4:=hd_ (bt_ B3.out hb)
 have G4:=hd_ hG
 clear hb hG hNN B3
 generalize edgesL W H T=es at HD1 G4 ⊢
 generalize trTo W H T N=tr at HD1 G4
 obtain ⟨ne,hne⟩:∃ ne,es.length=ne:=⟨_,rfl⟩
 rw [hne] at HD1 G4 ⊢
 clear hne
 go_upto_region 7 with (fail)
 have B5:=hd_ (bt_ B4.out (bn_ w4 (.cells #[.slice AT N cT,.slice AE ne cE,.slice (some ⟨ga,0,none⟩) N cA] 125)))
 have X5:=hd_ (Blk.made w4 125 #[.slice AT N cT,.slice AE ne cE,.slice (some ⟨ga,0,none⟩) N cA])
 have G5:=hd_ (G4.out.later (bn_ w4 (.cells #[.slice AT N cT,.slice AE ne cE,.slice (some ⟨ga,0,none⟩) N cA] 125)))
 clear G4 B4
 generalize w4.alloc (.cells #[.slice AT N cT,.slice AE ne cE,.slice (some ⟨ga,0,none⟩) N cA] 125)=w5 at B5 X5 G5 ⊢
 generalize w4.heap.size=gt at X5 ⊢
 have HX:=hd_ (show ∀ W':World,Below w5.heap.size w5 W'->Blk W' gt 125 #[.slice AT N cT,.slice AE ne cE,.slice (some ⟨ga,0,none⟩) N cA] from fun W' hW=>X5.out.keep hW)
 clear X5
 go_wp2_with fail
 go_loopw [9] (fun v9 wx=>∃ i:Nat,i<=n∧v9=.int .i64 (i:Int)∧Below w5.heap.size w5 wx∧Hid (∀ k,k<i->RiseP (ne:Int) ((wayl ls).getD k []))) (fun v9 _=>n-(intOf v9).toNat)
 case atStart=>exact ⟨0,by omega,rfl,br_,hd_ (fun k hk=>by omega)⟩
 case round =>
  obtain ⟨i,hi,rfl,hbw,HO⟩:=hrel
  have BW:=hd_ hbw
  clear hbw
  have x0:=(HX.out _ BW.out).cell 0
  have x1:=(HX.out _ BW.out).cell 1
  have x2:=(HX.out _ BW.out).cell 2
  by_cases hin:i<n
  case pos =>
   have hin':(i:Int)<(n:Int):=by omega
   have hib:i<ls.length:=by rw [HM.out];exact hin
   have hls:=HLS.out.later (bt_ B5.out BW.out)
   obtain ⟨ba,hBA,hbab,b0⟩:=hls.at_ hib
   have hrb:=hls.all _ (List.getElem_mem hib)
   have hlb:=HLB.out _ (List.getElem_mem hib)
   have HBAD:=hd_ (show ¬ RiseP (ne:Int) ls[i].2.2->d=1 from fun h=>by
    rw [<- HD1.out,if_pos (fun hall=>h (by have:=hall i (by rw [HWL.out];exact hin);rw [wayl_get hib] at this;exact this))])
   have HGO:=hd_ (show RiseP (ne:Int) ls[i].2.2->∀ k,k<i+1->RiseP (ne:Int) ((wayl ls).getD k []) from fun h k hk=>by
    rcases Nat.lt_succ_iff_lt_or_eq.1 hk with e|rfl
    ·exact HO.out k e
    ·rw [wayl_get hib];exact h)
   clear hls
   generalize ls[i]'hib=z at b0 hrb hlb HBAD HGO
   obtain ⟨zA,zc,lb⟩:=z
   simp only [slv] at b0 hrb hlb HBAD HGO
   obtain ⟨r,hr⟩:∃ r,lb.length=r:=⟨_,rfl⟩
   rw [hr] at b0 hrb hlb
   have HRB:=hd_ hrb
   have hne3:=G5.out.nE
   have HRI:=hd_ (fun (W':World) (hW:Below wr.heap.size wr W')=>rrising_any (ne:Int) zA r zc lb W' (HRB.out.later hW) (by omega))
   obtain ⟨bo,hbo⟩:∃ bo,decide (RiseP (ne:Int) lb)=bo:=⟨_,rfl⟩
   rw [hbo] at HRI
   have HBO:=hd_ hbo
   rw [hBA]
   clear hbo hrb hr hBA hbab hib
   go_wp2_with fail
   refine wp_region_still_in (by kernel_rfl) (by kernel_rfl) fun St9 ne9 V9 hV9 hS9=>?_
   have qb0:=still_cell hV9 b0
   have qx1:=still_cell hV9 x1
   repeat (first|go_big_quiet_step ((go_at_call 86;exact Calls.still hV9 hS9 (HRI.out _ (hV9 _))))|quiet_step ((go_at_call 86;exact Calls.still hV9 hS9 (HRI.out _ (hV9 _)))))
   refine wpQuiet_nil ?_
   intro _ hw9
   obtain ⟨s9,rfl⟩:=hw9
   have hb9:=hV9 s9
   clear qb0 qx1 hS9
   generalize V9 s9=w9 at hb9 ⊢
   clear hV9 s9 V9 ne9 St9
   have B9:=hd_ (bt_ BW.out hb9)
   clear hb9 b0 x0 x1 x2 BW HRI
   cases bo with
   | false =>
    have hz:=hd_ (HBAD.out (of_decide_eq_false HBO.out))
    go_wp2_with fail
    go_ret
    exact ⟨by rw [hz.out];rfl,bt_ B5.out B9.out⟩
   | true =>
    have HG:=hd_ (HGO.out (of_decide_eq_true HBO.out))
    go_wp2_with fail
    go_roundw
    case rel=>exact ⟨i+1,by omega,by go_num,B9.out,HG⟩
    case measure=>simp [intOf];omega
  obtain rfl:n=i:=by omega
  have hlt:¬ (n:Int)<(n:Int):=by omega
  have HRA:=hd_ (show RiseAll ne (wayl ls) from fun k hk=>HO.out k (by rw [<- HWL.out];exact hk))
  have HLR:=hd_ (show ∀ x ∈ ls,∀ s ∈ x.2.2,0<=s∧s<(ne:Int) from fun x hx=>by
   obtain ⟨k,hk,rfl⟩:=List.getElem_of_mem hx
   have h:=HRA.out k (by rw [HWL.out,<- HM.out];exact hk)
   rw [wayl_get hk] at h
   exact rise_in h)
  have HD2:=hd_ (show (if ¬ ApartP (goodW tr (wpl ws)) (wTo es (wayl ls) n) then (320:Int) else if ¬ JoinAll es (wpl ws) (wayl ls) then 300 else 0)=d from (if_neg (fun h=>h HRA.out)).symm.trans HD1.out)
  clear HD1 HO
  have HAP:=hd_ (rapart_any N ne cT cE AT AE tr es (.slice (some ⟨ga,0,none⟩) N cA) A B c cB ws ls wr (G5.out.later BW.out) (HI.out.later (bt_ B5.out BW.out)) HF.out (HLS.out.later (bt_ B5.out BW.out)) (by rw [HM.out,HN.out]) HLB.out HLR.out rfl)
  rw [HN.out,HM.out] at HAP
  obtain ⟨bo,hbo⟩:∃ bo,decide (ApartP (goodW tr (wpl ws)) (wTo es (wayl ls) n))=bo:=⟨_,rfl⟩
  rw [hbo] at HAP
  have HBO:=hd_ hbo
  clear hbo
  go_wp2_with fail
  refine HAP.out.mono ?_
  rintro e w6 ⟨rfl,hb⟩
  have B6:=hd_ (bt_ BW.out hb)
  clear hb x0 x1 x2 HAP BW
  cases bo with
  | false =>
   have hz:=hd_ (show d=320 by rw [<- HD2.out,if_pos (of_decide_eq_false HBO.out)])
   go_wp2_with fail
   go_ret
   exact ⟨by rw [hz.out];rfl,bt_ B5.out B6.out⟩
  | true =>
  have HD3:=hd_ (show (if ¬ JoinAll es (wpl ws) (wayl ls) then (300:Int) else 0)=d from (if_neg (fun h=>h (of_decide_eq_true HBO.out))).symm.trans HD2.out)
  clear HD2 HBO
  go_wp2_with fail
  go_loopw [10] (fun v10 wx=>∃ i:Nat,i<=n∧v10=.int .i64 (i:Int)∧Below w5.heap.size w5 wx∧Hid (∀ k,k<i->∀ t ∈ ((wpl ws).getD k (0,[])).2,Jn es ((wayl ls).getD k []) ((wpl ws).getD k (0,[])).1.toNat t.toNat)) (fun v10 _=>n-(intOf v10).toNat)
  case atStart=>exact ⟨0,by omega,rfl,B6.out,hd_ (fun k hk=>by omega)⟩
  case round =>
   clear B6
   obtain ⟨i,hi,rfl,hbw,HO⟩:=hrel
   have BW:=hd_ hbw
   clear hbw
   by_cases hin:i<n
   case neg =>
    obtain rfl:n=i:=by omega
    have hlt:¬ (n:Int)<(n:Int):=by omega
    have hz:=hd_ (show d=0 by rw [<- HD3.out,if_neg (fun h=>h (fun k hk=>HO.out k (by rw [<- HPL.out];exact hk)))])
    go_wp2_with fail
    go_ret
    exact ⟨by rw [hz.out];rfl,bt_ B5.out BW.out⟩
   have hin':(i:Int)<(n:Int):=by omega
   have hil:i<ws.length:=by rw [HN.out];exact hin
   have hib:i<ls.length:=by rw [HM.out];exact hin
   have HB:=hd_ (bt_ B5.out BW.out)
   obtain ⟨g0,g1⟩:=wcells_get ws i hil
   obtain ⟨pa,hPA,hpb,e0,e1⟩:=((HI.out.later HB.out).row).two g0 g1
   have hea:=(HI.out.later HB.out).all _ (List.getElem_mem hil)
   have hll:=HF.out.l hil
   obtain ⟨hmf,hmt⟩:=may_from HMAY.out hil
   obtain ⟨ba,hBA,hbab,b0⟩:=(HLS.out.later HB.out).at_ hib
   have hrb:=(HLS.out.later HB.out).all _ (List.getElem_mem hib)
   have hlb:=HLB.out _ (List.getElem_mem hib)
   have hlr:=HLR.out _ (List.getElem_mem hib)
   have hwp:=wpl_get hil
   have hwy:=wayl_get hib
   have HBAD:=hd_ (show ∀ t ∈ ws[i].2.2.2,¬ Jn es ls[i].2.2 ws[i].1.toNat t.toNat->d=300 from fun t ht h=>by
    rw [<- HD3.out,if_pos (fun hall=>h (by have:=hall i (by rw [HPL.out];exact hin) t (by rw [hwp];exact ht);rw [hwp,hwy] at this;exact this))])
   have HGO:=hd_ (show (∀ t ∈ ws[i].2.2.2,Jn es ls[i].2.2 ws[i].1.toNat t.toNat)->∀ k,k<i+1->∀ t ∈ ((wpl ws).getD k (0,[])).2,Jn es ((wayl ls).getD k []) ((wpl ws).getD k (0,[])).1.toNat t.toNat from fun h k hk=>by
    rcases Nat.lt_succ_iff_lt_or_eq.1 hk with e|rfl
    ·exact HO.out k e
    ·rw [hwp,hwy];exact h)
   clear hwp hwy
   generalize ws[i]'hil=y at e0 e1 hea hll hmf hmt HBAD HGO
   obtain ⟨f,yA,yc,l⟩:=y
   generalize ls[i]'hib=z at b0 hrb hlb hlr HBAD HGO
   obtain ⟨zA,zc,lb⟩:=z
   simp only [slv] at e0 e1 hea hll hmf hmt b0 hrb hlb hlr HBAD HGO
   obtain ⟨q,hq⟩:∃ q,l.length=q:=⟨_,rfl⟩
   have HQL:=hd_ hq
   rw [hq] at e1 hll hea
   obtain ⟨r,hr⟩:∃ r,lb.length=r:=⟨_,rfl⟩
   rw [hr] at b0 hrb hlb
   obtain ⟨fn,rfl⟩:∃ fn:Nat,f=(fn:Int):=⟨f.toNat,by have:=hmf.2.1;omega⟩
   have hfN:fn<N:=by have:=hmf.2.2;rw [HNN.out] at this;omega
   rw [Int.toNat_natCast] at HBAD HGO
   have HLN:=hd_ (show ∀ t ∈ l,0<=t∧t<(N:Int) from fun t ht=>by have:=(hmt t ht).2;rw [HNN.out] at this;exact this)
   have HEA:=hd_ hea
   have HJ:=hd_ (rjoined_any N ne cT cE AT AE tr es (.slice (some ⟨ga,0,none⟩) N cA) zA r zc lb fn wr.drew (G5.out.later (bt_ BW.out bd_)) (hrb.later bd_) hlb hlr hfN rfl)
   rw [hPA,hBA]
   obtain ⟨gp,hgp⟩:∃ p,pa.add (i*2)=p:=⟨_,rfl⟩
   rw [hgp] at e0 e1
   have x0:=(HX.out _ BW.out).cell 0
   have x1:=(HX.out _ BW.out).cell 1
   have x2:=(HX.out _ BW.out).cell 2
   have HSS:=hd_ (show ∀ W':World,Below wr.heap.size wr W'->(W'.cell? ⟨gt,0,none⟩=some (.slice AT N cT)∧W'.cell? ⟨gt,1,none⟩=some (.slice AE ne cE)∧W'.cell? ⟨gt,2,none⟩=some (.slice (some ⟨ga,0,none⟩) N cA)∧W'.cell? (ba.add i)=some (.slice zA r zc)∧W'.cell? gp=some (.int .i64 (fn:Int))) from fun W' hW =>
    ⟨(hW.cell (World.block_lt_of_cell? wr _ x0)).trans x0,(hW.cell (World.block_lt_of_cell? wr _ x1)).trans x1,(hW.cell (World.block_lt_of_cell? wr _ x2)).trans x2,(hW.cell (World.block_lt_of_cell? wr _ b0)).trans b0,(hW.cell (World.block_lt_of_cell? wr _ e0)).trans e0⟩)
   have HSE:=hd_ (show ∀ W':World,Below wr.heap.size wr W'->W'.cell? ⟨gp.block,gp.off+1,none⟩=some (.slice yA q yc) from fun W' hW=>(hW.cell (World.block_lt_of_cell? wr _ e1)).trans e1)
   clear hPA hBA hpb hbab hea hrb hlb hlr hmf hmt hq hr g0 g1 hil hib
   go_upto_region 17 with (fail)
   clear x0 x1 x2 b0 e0 e1
   refine wp_region_held_drew (S:=(fun w'=>w'.cell? ⟨gt,0,none⟩=some (.slice AT N cT)∧w'.cell? ⟨gt,1,none⟩=some (.slice AE ne cE)∧w'.cell? ⟨gt,2,none⟩=some (.slice (some ⟨ga,0,none⟩) N cA)∧w'.cell? (ba.add i)=some (.slice zA r zc)∧w'.cell? gp=some (.int .i64 (fn:Int)))) (by kernel_rfl) ?_ (fun hh=>?_)
   ·(first|exact HSS.out _ br_|exact HSS.out _ bd_|exact HSS.out _ B6.out)
   refine tk_ 0 (⟨some 57,.load 125 (.tmp 8),125,_,#[],none⟩) (v:=?_) ?_ ?_
   rotate_left
   ·intro w hSw;(try dsimp only at hSw);go_simp;(try with_reducible rfl)
   try simp only [Act.put,la_,lz_,ls_]
   refine tk_ 1 (⟨some 58,.move (.tmp 2),30,_,#[],none⟩) (v:=?_) ?_ ?_
   rotate_left
   ·intro w hSw;(try dsimp only at hSw);go_simp;(try with_reducible rfl)
   try simp only [Act.put,la_,lz_,ls_]
   refine tk_ 2 (⟨some 59,.move (.tmp 10),3,_,#[],none⟩) (v:=?_) ?_ ?_
   rotate_left
   ·intro w hSw;(try dsimp only at hSw);go_simp;(try with_reducible rfl)
   try simp only [Act.put,la_,lz_,ls_]
   refine tk_ 3 (⟨some 60,.indexAddr 30 (.tmp 58) (.tmp 59),0,_,#[⟨1,.data⟩,⟨2,.data⟩],none⟩) (v:=?_) ?_ ?_
   rotate_left
   ·intro w hSw;(try dsimp only at hSw);go_simp;(try with_reducible rfl)
   try simp only [Act.put,la_,lz_,ls_]
   refine tk_ 4 (⟨some 61,.load 25 (.tmp 60),25,_,#[⟨3,.data⟩],none⟩) (v:=?_) ?_ ?_
   rotate_left
   ·intro w hSw;(try dsimp only at hSw);go_simp;(try with_reducible rfl)
   try simp only [Act.put,la_,lz_,ls_]
   refine tk_ 5 (⟨some 62,.move (.tmp 1),53,_,#[],none⟩) (v:=?_) ?_ ?_
   rotate_left
   ·intro w hSw;(try dsimp only at hSw);go_simp;(try with_reducible rfl)
   try simp only [Act.put,la_,lz_,ls_]
   refine tk_ 6 (⟨some 63,.move (.tmp 10),3,_,#[],none⟩) (v:=?_) ?_ ?_
   rotate_left
   ·intro w hSw;(try dsimp only at hSw);go_simp;(try with_reducible rfl)
   try simp only [Act.put,la_,lz_,ls_]
   refine tk_ 7 (⟨some 64,.indexAddr 53 (.tmp 62) (.tmp 63),0,_,#[⟨5,.data⟩,⟨6,.data⟩],none⟩) (v:=?_) ?_ ?_
   rotate_left
   ·intro w hSw;(try dsimp only at hSw);go_simp;(try with_reducible rfl)
   try simp only [Act.put,la_,lz_,ls_]
   refine tk_ 8 (⟨some 65,.fieldAddr 87 (.tmp 64) 0,0,_,#[⟨7,.data⟩],none⟩) (v:=?_) ?_ ?_
   rotate_left
   ·intro w hSw;(try dsimp only at hSw);go_simp;(try with_reducible rfl)
   try simp only [Act.put,la_,lz_,ls_]
   refine tk_ 9 (⟨some 66,.load 3 (.tmp 65),3,_,#[⟨8,.data⟩],none⟩) (v:=?_) ?_ ?_
   rotate_left
   ·intro w hSw;(try dsimp only at hSw);go_simp;(try with_reducible rfl)
   try simp only [Act.put,la_,lz_,ls_]
   refine rd_ [10] ?_
   refine AllReadyH.cons (o:=⟨some 67,.call { callee:=.value (.func 88),args:=#[.tmp 57,.tmp 61,.tmp 66],argTypes:=#[125,25,3] },35,_,#[⟨0,.data⟩,⟨4,.data⟩,⟨9,.data⟩],none⟩) rfl (fun K hK=>?_) AllReadyH.nil
   go_simp
   with_reducible refine HJ.out.mono ?_
   rintro e w6 ⟨g6,rfl,hg6,hm6,hb6⟩
   have B6:=hd_ (bt_ bd_ hb6)
   have M6:=hd_ hm6
   clear hg6 hm6 hb6
   refine hK.out _ _ ?_ (fun hh=>?_)
   ·(first|exact HSS.out _ br_|exact HSS.out _ bd_|exact HSS.out _ B6.out)
   clear hK K
   try simp only [Act.put,la_,lz_,ls_]
   refine tk_ 11 (⟨some 11,.assign (.tmp 67),35,_,#[⟨10,.data⟩,⟨10,.chain⟩,⟨0,.phase⟩,⟨1,.phase⟩,⟨2,.phase⟩,⟨3,.phase⟩,⟨4,.phase⟩,⟨5,.phase⟩,⟨6,.phase⟩,⟨7,.phase⟩,⟨8,.phase⟩,⟨9,.phase⟩,⟨10,.phase⟩],none⟩) (v:=?_) ?_ ?_
   rotate_left
   ·intro w hSw;(try dsimp only at hSw);go_simp;(try with_reducible rfl)
   try simp only [Act.put,la_,lz_,ls_]
   refine wpAnyH_done (by kernel_rfl) ?_ _
   have BA:=hd_ (show Below w5.heap.size w5 w6 from bt_ BW.out B6.out)
   clear HSS HJ
   go_wp2_with fail
   go_loopw [12] (fun v12 wx=>∃ k:Nat,k<=q∧v12=.int .i64 (k:Int)∧Below w6.heap.size w6 wx∧Hid (∀ j,j<k->Jn es lb fn (l.getD j 0).toNat)) (fun v12 _=>q-(intOf v12).toNat)
   case atStart=>exact ⟨0,by omega,rfl,br_,hd_ (fun j hj=>by omega)⟩
   case round =>
    obtain ⟨k,hk,rfl,hbw,HJK⟩:=hrel
    have BX:=hd_ hbw
    clear hbw
    have e1:=HSE.out _ (bt_ B6.out BX.out)
    by_cases hkq:k<q
    case neg =>
     obtain rfl:q=k:=by omega
     have hlt:¬ (q:Int)<(q:Int):=by omega
     have HG:=hd_ (HGO.out (fun t ht=>by
      obtain ⟨j,hj,rfl⟩:=List.getElem_of_mem ht
      have:=HJK.out j (by rw [<- HQL.out];exact hj)
      rw [List.getD_eq_getElem?_getD,List.getElem?_eq_getElem hj] at this
      exact this))
     go_wp2_with fail
     go_roundw
     case rel=>exact ⟨i+1,by omega,by go_num,bt_ BA.out BX.out,HG⟩
     case measure=>simp [intOf];omega
    have hkq':(k:Int)<(q:Int):=by omega
    have hkl:k<l.length:=by rw [HQL.out];exact hkq
    have hmem:l.getD k 0 ∈ l:=by rw [List.getD_eq_getElem?_getD,List.getElem?_eq_getElem hkl];exact List.getElem_mem hkl
    obtain ⟨la,hla,-,l0⟩:=(HEA.out.later (bt_ B6.out BX.out)).int (k:=k) hkq
    have hx:=HLN.out _ hmem
    have HBK:=hd_ (HBAD.out _ hmem)
    have HGK:=hd_ (show Jn es lb fn (l.getD k 0).toNat->∀ j,j<k+1->Jn es lb fn (l.getD j 0).toNat from fun h j hj=>by
     rcases Nat.lt_succ_iff_lt_or_eq.1 hj with e|rfl
     ·exact HJK.out j e
     ·exact h)
    generalize l.getD k 0=x at l0 hx HBK HGK
    obtain ⟨xn,rfl⟩:∃ xn:Nat,x=(xn:Int):=⟨x.toNat,by omega⟩
    rw [Int.toNat_natCast] at HBK HGK
    have hxN:xn<N:=by omega
    have hxN':(xn:Int)<(N:Int):=by omega
    have m0:=BitsB.at_ (show BitsB wr g6 (jb N es lb fn) from Blk.keep M6.out BX.out) (a:=xn) (by rw [jb_len];exact hxN)
    rw [jb_get hxN] at m0
    obtain ⟨bo,hbo⟩:∃ bo,decide (Jn es lb fn xn)=bo:=⟨_,rfl⟩
    rw [hbo] at m0
    have HBO:=hd_ hbo
    rw [hla] at e1
    clear hbo hmem hkl hx hla
    cases bo with
    | false =>
     have hz:=hd_ (HBK.out (of_decide_eq_false HBO.out))
     go_wp2_with fail
     go_ret
     exact ⟨by rw [hz.out];rfl,bt_ B5.out (bt_ BA.out BX.out)⟩
    | true =>
     have HG:=hd_ (HGK.out (of_decide_eq_true HBO.out))
     go_wp2_with fail
     go_roundw
     case rel=>exact ⟨k+1,by omega,by go_num,BX.out,HG⟩
     case measure=>simp [intOf];omega
theorem MapN.getR {w:World} {B cap:Nat} {M:Int->Option Int} (h:MapN w B cap M) {n:Int} (hn:-9223372036854775808<=n∧n<=9223372036854775807):(Instr.lookup 102 (.map (some B)) (.int .i64 n) true).run Tryz.prog w=.ok (.tuple #[.int .i64 ((M n).getD 0),.bool (M n).isSome]) w:=by
 obtain ⟨D,hown,hD⟩:=h
 obtain ⟨v,ps,hrun,hv⟩:=hown.look_ok key_int Tryz.underlying102 (zero_int w) (plainElem_int Tryz.underlying3 (by decide)) (keyI hn)
 obtain ⟨c,rfl,hc,hwc⟩:=plainElem_int_inv Tryz.underlying3 hv
 rw [hrun]
 have hx1:=congrArg Prod.fst hc
 simp only at hx1
 have hh:=hD.has n
 rw [hh]
 cases hM:M n with
 | none =>
  rw [hM] at hh
  rw [atKey_of_not_has hh] at hx1
  simp at hx1
  simp [hx1]
 | some y =>
  rw [hD.at_ n y hM] at hx1
  simp at hx1
  simp [hx1]
theorem MapN.updateR {w:World} {B cap:Nat} {M:Int->Option Int} (h:MapN w B cap M) (hc:cap<maxLen) (n v:Int) (hn:-9223372036854775808<=n∧n<=9223372036854775807) (hv:-9223372036854775808<=v∧v<=9223372036854775807) :
  ∃ w',(Instr.mapUpdate 102 (.map (some B)) (.int .i64 n) (.int .i64 v)).run Tryz.prog w=.ok () w'∧MapN w' B (cap+1) (updI M n v)∧w.grownBy w' (some B):=by
 obtain ⟨D,hown,hD⟩:=h
 obtain ⟨w',h1,h2,h3⟩:=hown.update key_int Tryz.underlying102 hc (keyI hn) (plainElem_int Tryz.underlying3 (WalkArith.wf_i64 (by omega)))
 exact ⟨w',h1,⟨_,h2,hD.put n v⟩,h3⟩
def Forest (M:Int->Option Int) (R:Int->Int):Prop:=∃ dep:Int->Nat,∀ n,(M n=none->R n=n)∧(∀ v,M n=some v->R v=R n∧dep v<dep n)
theorem Forest.start:Forest (fun _=>none) id:=⟨fun _=>0,fun n=>⟨fun _=>rfl,fun v h=>by cases h⟩⟩
theorem Forest.root {M:Int->Option Int} {R:Int->Int} (h:Forest M R) (n:Int):M (R n)=none∧R (R n)=R n:=by
 obtain ⟨dep,h⟩:=h
 have key:∀ (k:Nat) (n:Int),dep n<=k->M (R n)=none∧R (R n)=R n:=by
  intro k
  induction k with
  | zero =>
   intro n hn
   cases e:M n with
   | none=>rw [(h n).1 e];exact ⟨e,(h n).1 e⟩
   | some v=>have:=((h n).2 v e).2;omega
  | succ k ih =>
   intro n hn
   cases e:M n with
   | none=>rw [(h n).1 e];exact ⟨e,(h n).1 e⟩
   | some v =>
    have h2:=(h n).2 v e
    rw [<- h2.1]
    exact ih v (by omega)
 exact key _ n (Nat.le_refl _)
def jnR (R:Int->Int) (m n:Int):Int->Int:=fun x=>if R x=R m then R n else R x
theorem Forest.join {M:Int->Option Int} {R:Int->Int} (h:Forest M R) {m n:Int} (hne:R m≠R n):Forest (updI M (R m) (R n)) (jnR R m n):=by
 have hm:=h.root m
 have hn:=h.root n
 obtain ⟨dep,h⟩:=h
 refine ⟨fun x=>if R x=R m then dep x+dep (R n)+1 else dep x,fun x=>⟨fun hx=>?_,fun v hv=>?_⟩⟩
 ·unfold updI at hx
  by_cases e:x=R m
  ·rw [if_pos e] at hx;cases hx
  ·rw [if_neg e] at hx
   have h2:=(h x).1 hx
   unfold jnR
   rw [if_neg (by rw [h2];exact e),h2]
 ·unfold updI at hv
  by_cases e:x=R m
  ·rw [if_pos e] at hv
   cases hv
   subst e
   unfold jnR
   rw [hm.2,hn.2,if_pos rfl,if_neg (Ne.symm hne)]
   refine ⟨rfl,?_⟩
   simp only [hm.2,hn.2,if_pos,if_neg (Ne.symm hne)]
   omega
  ·rw [if_neg e] at hv
   have h2:=(h x).2 v hv
   unfold jnR
   rw [h2.1]
   refine ⟨rfl,?_⟩
   simp only [h2.1]
   split <;> omega
theorem jnR_same {R:Int->Int} {m n:Int} (h:R m=R n):jnR R m n=R:=by
 funext x
 unfold jnR
 split
 ·rename_i e;rw [e,h]
 ·rfl
def RangeM (M:Int->Option Int):Prop:=∀ n v,M n=some v->-9223372036854775808<=v∧v<=9223372036854775807
theorem Forest.range {M:Int->Option Int} {R:Int->Int} (h:Forest M R) (hr:RangeM M) {n:Int} (hn:-9223372036854775808<=n∧n<=9223372036854775807):-9223372036854775808<=R n∧R n<=9223372036854775807:=by
 obtain ⟨dep,h⟩:=h
 have key:∀ (k:Nat) (n:Int),dep n<=k->(-9223372036854775808<=n∧n<=9223372036854775807)->-9223372036854775808<=R n∧R n<=9223372036854775807:=by
  intro k
  induction k with
  | zero =>
   intro n hk hn
   cases e:M n with
   | none=>rw [(h n).1 e];exact hn
   | some v=>have:=((h n).2 v e).2;omega
  | succ k ih =>
   intro n hk hn
   cases e:M n with
   | none=>rw [(h n).1 e];exact hn
   | some v =>
    have h2:=(h n).2 v e
    rw [<- h2.1]
    exact ih v (by omega) (hr n v e)
 exact key _ n (Nat.le_refl _) hn
theorem roots_of (B cap:Nat) (M:Int->Option Int) (R:Int->Int) (n:Int) (w:World) (hM:MapN w B cap M) (hF:Forest M R) (hr:RangeM M) (hn:-9223372036854775808<=n∧n<=9223372036854775807) :
  Calls Tryz.prog 64 #[.map (some B),.int .i64 n] w fun e w'=>e=.returned (.int .i64 (R n))∧w=w':=by
 have HM:=hd_ hM
 have HF:=hd_ hF
 have HR:=hd_ hr
 obtain ⟨dep,hdep⟩:=hF
 have HDP:=hd_ hdep
 obtain ⟨r,hrr⟩:∃ r,R n=r:=⟨_,rfl⟩
 have HRR:=hd_ hrr
 have HNN:=hd_ hn
 rw [hrr]
 clear hM hr hrr hdep hn
 go_enter Tryz.func64,Tryz.ntmps64
 go_wp2_with fail
 go_loopw [1] (fun v1 wx=>∃ x:Int,v1=.int .i64 x∧wx=w∧Hid (R x=r)∧Hid (-9223372036854775808<=x∧x<=9223372036854775807)) (fun v1 _=>dep (intOf v1))
 case atStart=>exact ⟨n,rfl,rfl,HRR,HNN⟩
 case round =>
  obtain ⟨x,rfl,rfl,HX,HXN⟩:=hrel
  have hg:=MapN.getR HM.out (n:=x) HXN.out
  cases e:M x with
  | none =>
   rw [e] at hg
   simp only [Option.getD_none,Option.isSome_none] at hg
   have hx:=hd_ (show x=r by rw [<- HX.out];exact ((HDP.out x).1 e).symm)
   clear e
   go_wp2_with fail
   go_ret
   exact ⟨by rw [hx.out];rfl,rfl⟩
  | some v =>
   rw [e] at hg
   simp only [Option.getD_some,Option.isSome_some] at hg
   have hv:=(HDP.out x).2 v e
   have HV:=hd_ hv
   have HVN:=hd_ (HR.out x v e)
   clear e hv
   go_wp2_with fail
   go_roundw
   case rel=>exact ⟨v,rfl,by first|trivial|rfl,hd_ (HV.out.1.trans HX.out),HVN⟩
   case measure=>exact HV.out.2
def JoinedM (B cap:Nat) (R:Int->Int) (m n:Int) (w:World) (e:Ending) (w':World):Prop :=
 e=.returned (.tuple #[])∧∃ (cap':Nat) (M':Int->Option Int),cap'<=cap+1∧MapN w' B cap' M'∧Forest M' (jnR R m n)∧RangeM M'∧Chg w w' (fun k=>k=B)
theorem range_upd {M:Int->Option Int} (h:RangeM M) {a v:Int} (hv:-9223372036854775808<=v∧v<=9223372036854775807):RangeM (updI M a v):=fun n u hu=>by
 unfold updI at hu
 split at hu
 ·cases hu;exact hv
 ·exact h n u hu
theorem roots_join (B cap:Nat) (M:Int->Option Int) (R:Int->Int) (m n:Int) (w:World) (hM:MapN w B cap M) (hF:Forest M R) (hr:RangeM M) (hcap:cap<10000000) (hm:-9223372036854775808<=m∧m<=9223372036854775807) (hn:-9223372036854775808<=n∧n<=9223372036854775807) :
  Calls Tryz.prog 61 #[.map (some B),.int .i64 m,.int .i64 n] w (JoinedM B cap R m n w):=by
 have HM:=hd_ hM
 have HF:=hd_ hF
 have HR:=hd_ hr
 have H1:=hd_ (roots_of B cap M R m w hM hF hr hm)
 have H2:=hd_ (roots_of B cap M R n w hM hF hr hn)
 have hrm:=hd_ (hF.range hr hm)
 have hrn:=hd_ (hF.range hr hn)
 obtain ⟨RR,hRR⟩:∃ RR,JoinedM B cap R m n w=RR:=⟨_,rfl⟩
 have HRR:=hd_ hRR
 have HJ:=hd_ (fun (h:R m≠R n)=>hF.join h)
 have HS:=hd_ (fun (h:R m=R n)=>jnR_same h)
 obtain ⟨u,hu,hm7,hg7⟩:=MapN.updateR hM (by unfold maxLen;omega) (R m) (R n) hrm.out hrn.out
 have HM7:=hd_ hm7
 have HG7:=hd_ hg7
 rw [hRR]
 clear hM hF hr hRR hm7 hg7 hm hn
 generalize hx:R m=x at H1 hrm HJ HS HM7 hu
 generalize hy:R n=y at H2 hrn HJ HS HM7 hu
 have HX:=hd_ hx
 have HY:=hd_ hy
 clear hx hy
 go_enter Tryz.func61,Tryz.ntmps61
 go_wp2_with fail
 refine H1.out.mono ?_
 rintro e w1 ⟨rfl,rfl⟩
 go_wp2_with fail
 refine H2.out.mono ?_
 rintro e w1 ⟨rfl,rfl⟩
 by_cases hxy:x=y
 ·have h1:(x==y)=true:=by rw [beq_iff_eq];exact hxy
  have h2:(x != y)=false:=by rw [hxy];exact bne_self_eq_false _
  have HE:=hd_ hxy
  clear hxy
  go_wp2_with fail
  go_end0
  rw [<- HRR.out]
  exact ⟨rfl,cap,M,by omega,HM.out,by rw [HS.out HE.out];exact HF.out,HR.out,Chg.refl _ _⟩
 ·have h1:(x==y)=false:=by rw [beq_eq_false_iff_ne];exact hxy
  have h2:(x != y)=true:=by rw [bne_iff_ne];exact hxy
  have HE:=hd_ hxy
  clear hxy
  go_wp2_with fail
  go_end0
  rw [<- HRR.out]
  exact ⟨rfl,cap+1,_,by omega,HM7.out,HJ.out HE.out,range_upd HR.out hrn.out,(Chg.of_grown HG7.out).mono' (fun k hk=>by cases hk;rfl)⟩
theorem notroot_any (gr gw B cap:Nat) (M:Int->Option Int) (R:Int->Int) (x f:Int) (w:World) (hM:MapN w B cap M) (hF:Forest M R) (hr:RangeM M) (h0:w.cell? ⟨gr,0,none⟩=some (.map (some B))) (h1:w.cell? ⟨gw,0,none⟩=some (.int .i64 f))
  (hx:-9223372036854775808<=x∧x<=9223372036854775807) (hf:-9223372036854775808<=f∧f<=9223372036854775807) :
  Calls Tryz.prog 63 #[.int .i64 x,.pointer (some ⟨gr,0,none⟩),.pointer (some ⟨gw,0,none⟩)] w fun e w'=>e=.returned (.bool (decide (R x≠R f)))∧Below w.heap.size w w':=by
 have H1:=hd_ (fun (W':World) (hW:Below w.heap.size w W')=>roots_of B cap M R x W' (MapV.below hM hW) hF hr hx)
 have H2:=hd_ (fun (W':World) (hW:Below w.heap.size w W')=>roots_of B cap M R f W' (MapV.below hM hW) hF hr hf)
 obtain ⟨d,hd⟩:∃ d,decide (R x≠R f)=d:=⟨_,rfl⟩
 rw [hd]
 generalize R x=u at H1 hd
 generalize R f=v at H2 hd
 clear hM hF hr hx hf
 have HD:=hd_ hd
 clear hd
 by_cases huv:u=v
 ·have hz:=hd_ (show d=false by rw [<- HD.out];exact decide_eq_false (fun h=>h huv))
  have e1:(u==v)=true:=by rw [beq_iff_eq];exact huv
  have e2:(u != v)=false:=by rw [huv];exact bne_self_eq_false _
  clear huv
  go_enter Tryz.func63,Tryz.ntmps63
  go_wp2_with fail
  refine wp_region_still_in (by kernel_rfl) (by kernel_rfl) fun St9 ne9 V9 hV9 hS9=>?_
  have qh0:=still_cell hV9 h0
  have qh1:=still_cell hV9 h1
  repeat (first|go_big_quiet_step (first|(go_at_call 64;with_reducible exact Calls.still_same hS9 (H1.out _ (hV9 _)))|(go_at_call 64;with_reducible exact Calls.still_same hS9 (H2.out _ (hV9 _))))|quiet_step (first|(go_at_call 64;with_reducible exact Calls.still_same hS9 (H1.out _ (hV9 _)))|(go_at_call 64;with_reducible exact Calls.still_same hS9 (H2.out _ (hV9 _)))))
  refine wpQuiet_nil ?_
  intro _ hw9
  obtain ⟨s9,rfl⟩:=hw9
  have hb9:=hV9 s9
  clear qh0 qh1 hS9
  generalize V9 s9=w9 at hb9 ⊢
  clear hV9 s9 V9 ne9 St9
  go_wp2_with fail
  go_ret
  exact ⟨by rw [hz.out];rfl,hb9⟩
 ·have hz:=hd_ (show d=true by rw [<- HD.out];exact decide_eq_true huv)
  have e1:(u==v)=false:=by rw [beq_eq_false_iff_ne];exact huv
  have e2:(u != v)=true:=by rw [bne_iff_ne];exact huv
  clear huv
  go_enter Tryz.func63,Tryz.ntmps63
  go_wp2_with fail
  refine wp_region_still_in (by kernel_rfl) (by kernel_rfl) fun St9 ne9 V9 hV9 hS9=>?_
  have qh0:=still_cell hV9 h0
  have qh1:=still_cell hV9 h1
  repeat (first|go_big_quiet_step (first|(go_at_call 64;with_reducible exact Calls.still_same hS9 (H1.out _ (hV9 _)))|(go_at_call 64;with_reducible exact Calls.still_same hS9 (H2.out _ (hV9 _))))|quiet_step (first|(go_at_call 64;with_reducible exact Calls.still_same hS9 (H1.out _ (hV9 _)))|(go_at_call 64;with_reducible exact Calls.still_same hS9 (H2.out _ (hV9 _)))))
  refine wpQuiet_nil ?_
  intro _ hw9
  obtain ⟨s9,rfl⟩:=hw9
  have hb9:=hV9 s9
  clear qh0 qh1 hS9
  generalize V9 s9=w9 at hb9 ⊢
  clear hV9 s9 V9 ne9 St9
  go_wp2_with fail
  go_ret
  exact ⟨by rw [hz.out];rfl,hb9⟩
inductive Cn (S:List (Int × Int)):Int->Int->Prop
 | refl (x:Int):Cn S x x
 | step {x y z:Int}:Cn S x y->((y,z) ∈ S∨(z,y) ∈ S)->Cn S x z
theorem Cn.trans {S:List (Int × Int)} {x y z:Int} (h:Cn S x y) (k:Cn S y z):Cn S x z:=by
 induction k with
 | refl=>exact h
 | step _ e ih=>exact .step ih e
theorem Cn.one {S:List (Int × Int)} {x y:Int} (h:(x,y) ∈ S∨(y,x) ∈ S):Cn S x y:=.step (.refl x) h
theorem Cn.symm {S:List (Int × Int)} {x y:Int} (h:Cn S x y):Cn S y x:=by
 induction h with
 | refl=>exact .refl _
 | step _ e ih=>exact (Cn.one e.symm).trans ih
theorem Cn.mono {S S':List (Int × Int)} {x y:Int} (h:Cn S x y) (hs:∀ e ∈ S,e ∈ S'):Cn S' x y:=by
 induction h with
 | refl=>exact .refl _
 | step _ e ih=>exact .step ih (e.imp (hs _) (hs _))
def Tells (R:Int->Int) (S:List (Int × Int)):Prop:=∀ x y,R x=R y↔Cn S x y
theorem Tells.start:Tells id []:=fun x y=>⟨fun h=>by cases h;exact .refl _,fun h=>by
 induction h with
 | refl=>rfl
 | step _ e _=>rcases e with e|e <;> cases e⟩
theorem Tells.join {R:Int->Int} {S:List (Int × Int)} (h:Tells R S) (a b:Int):Tells (jnR R a b) (S++[(a,b)]):=by
 have hm:∀ e ∈ S,e ∈ S++[(a,b)]:=fun e he=>List.mem_append.2 (.inl he)
 have hab:Cn (S++[(a,b)]) a b:=.one (.inl (by simp))
 intro x y
 constructor
 ·intro hxy
  unfold jnR at hxy
  by_cases h1:R x=R a
  ·rw [if_pos h1] at hxy
   by_cases h2:R y=R a
   ·exact ((h x y).1 (h1.trans h2.symm)).mono hm
   ·rw [if_neg h2] at hxy
    exact (((h x a).1 h1).mono hm).trans (hab.trans (((h b y).1 hxy).mono hm))
  ·rw [if_neg h1] at hxy
   by_cases h2:R y=R a
   ·rw [if_pos h2] at hxy
    exact (((h x b).1 hxy).mono hm).trans (hab.symm.trans (((h a y).1 h2.symm).mono hm))
   ·rw [if_neg h2] at hxy
    exact ((h x y).1 hxy).mono hm
 ·intro hc
  have hone:∀ y z,((y,z) ∈ S++[(a,b)])->jnR R a b y=jnR R a b z:=fun y z he=>by
   rcases List.mem_append.1 he with he|he
   ·have:=(h y z).2 (.one (.inl he))
    unfold jnR
    rw [this]
   ·rw [List.mem_singleton] at he
    injection he with e1 e2
    subst e1 e2
    unfold jnR
    rw [if_pos rfl]
    split <;> rfl
  induction hc with
  | refl=>rfl
  | step _ e ih =>
   rcases e with e|e
   ·exact ih.trans (hone _ _ e)
   ·exact ih.trans (hone _ _ e).symm
theorem Cn.own_ {S P:List (Int × Int)} {own:Int->Prop} (hS:∀ e ∈ S,(own e.1∨own e.2)->e ∈ P) (hP:∀ e ∈ P,own e.1∧own e.2) {f t:Int} (hf:own f) (h:Cn S f t):Cn P f t∧own t:=by
 induction h with
 | refl=>exact ⟨.refl _,hf⟩
 | step _ e ih =>
  rcases e with e|e
  ·have h2:=hS _ e (.inl ih.2)
   exact ⟨.step ih.1 (.inl h2),(hP _ h2).2⟩
  ·have h2:=hS _ e (.inr ih.2)
   exact ⟨.step ih.1 (.inr h2),(hP _ h2).1⟩
def wayE (es:List (Int × Int)) (way:List Int):List (Int × Int):=way.map (edge es)
theorem jn_cn {es:List (Int × Int)} {way:List Int} {f n:Nat} (h:Jn es way f n):Cn (wayE es way) (f:Int) (n:Int):=by
 induction h with
 | base=>exact .refl _
 | go hs he _ ih=>exact .step ih (.inl (by rw [<- he];exact List.mem_map.2 ⟨_,hs,rfl⟩))
 | back hs he _ ih=>exact .step ih (.inr (by rw [<- he];exact List.mem_map.2 ⟨_,hs,rfl⟩))
theorem cn_jn {es:List (Int × Int)} {way:List Int} {N:Nat} (hN:∀ s ∈ way,∃ a b:Nat,edge es s=((a:Int),(b:Int))) {f:Nat} {t:Int} (h:Cn (wayE es way) (f:Int) t):∃ n:Nat,t=(n:Int)∧Jn es way f n:=by

 induction h with
 | refl=>exact ⟨f,rfl,.base⟩
 | step _ e ih =>
  obtain ⟨n,rfl,hj⟩:=ih
  rcases e with e|e
  ·obtain ⟨s,hs,he⟩:=List.mem_map.1 e
   obtain ⟨a,b,hab⟩:=hN s hs
   rw [hab] at he
   injection he with e1 e2
   have:a=n:=by omega
   subst this
   exact ⟨b,e2.symm,.go hs hab hj⟩
  ·obtain ⟨s,hs,he⟩:=List.mem_map.1 e
   obtain ⟨a,b,hab⟩:=hN s hs
   rw [hab] at he
   injection he with e1 e2
   have:b=n:=by omega
   subst this
   exact ⟨a,e1.symm,.back hs hab hj⟩
theorem class_way {es:List (Int × Int)} {way:List Int} {N:Nat} (hN:∀ s ∈ way,∃ a b:Nat,edge es s=((a:Int),(b:Int))) {S:List (Int × Int)} {own:Int->Prop}
  (hsub:∀ e ∈ wayE es way,e ∈ S) (hS:∀ e ∈ S,(own e.1∨own e.2)->e ∈ wayE es way) (hP:∀ e ∈ wayE es way,own e.1∧own e.2) {f t:Nat} (hf:own (f:Int)) :
  Cn S (f:Int) (t:Int)↔Jn es way f t:=by
 constructor
 ·intro h
  obtain ⟨n,hn,hj⟩:=cn_jn (N:=N) hN (Cn.own_ hS hP hf h).1
  have:n=t:=by omega
  subst this
  exact hj
 ·intro h
  exact (jn_cn h).mono hsub
theorem ApartP.init {good:Nat->Int->Prop} {T:List (Nat × Int)} {t:Nat × Int} (h:ApartP good (T++[t])):ApartP good T∧stepOk good T t :=
 ⟨fun L u R he=>h L u (R++[t]) (by rw [he];simp),h T t [] rfl⟩
theorem ApartP.who {good:Nat->Int->Prop}:∀ (n:Nat) (T:List (Nat × Int)),T.length=n->ApartP good T->(∀ t ∈ T,good t.1 t.2∧lastT T t.2=(t.1:Int)+1)∧∀ m,lastT T m≠0->∃ i,(i,m) ∈ T∧lastT T m=(i:Int)+1
 | 0,T,hl,h=>by
  have:T=[]:=List.eq_nil_of_length_eq_zero hl
  subst this
  exact ⟨fun t ht=>(by cases ht),fun m hm=>absurd rfl hm⟩
 | n+1,T,hl,h=>by
  rcases List.eq_nil_or_concat T with rfl|⟨T',v,rfl⟩
  ·simp at hl
  ·rw [List.concat_eq_append] at h hl ⊢
   obtain ⟨h1,h2⟩:=h.init
   obtain ⟨ih1,ih2⟩:=ApartP.who n T' (by simpa using hl) h1
   obtain ⟨j,m⟩:=v
   refine ⟨fun t ht=>?_,fun k hk=>?_⟩
   ·rw [lastT_next]
    rcases List.mem_append.1 ht with ht|ht
    ·have h3:=ih1 t ht
     refine ⟨h3.1,?_⟩
     by_cases e:m=t.2
     ·rw [if_pos e]
      have h4:=h2.2
      simp only at h4
      rw [e,h3.2] at h4
      omega
     ·rw [if_neg e];exact h3.2
    ·rw [List.mem_singleton] at ht
     subst ht
     exact ⟨h2.1,by rw [if_pos rfl]⟩
   ·rw [lastT_next] at hk ⊢
    by_cases e:m=k
    ·rw [if_pos e];subst e;exact ⟨j,by simp,rfl⟩
    ·rw [if_neg e] at hk ⊢
     obtain ⟨i,hi,he⟩:=ih2 k hk
     exact ⟨i,List.mem_append.2 (.inl hi),he⟩
theorem ApartP.good_ {good:Nat->Int->Prop} {T:List (Nat × Int)} (h:ApartP good T) {t:Nat × Int} (ht:t ∈ T):good t.1 t.2:=((ApartP.who _ T rfl h).1 t ht).1
theorem ApartP.one {good:Nat->Int->Prop} {T:List (Nat × Int)} (h:ApartP good T) {i j:Nat} {n:Int} (hi:(i,n) ∈ T) (hj:(j,n) ∈ T):i=j:=by
 have h1:=((ApartP.who _ T rfl h).1 _ hi).2
 have h2:=((ApartP.who _ T rfl h).1 _ hj).2
 simp only at h1 h2
 omega
theorem wTo_mem {es:List (Int × Int)} {ways:List (List Int)} {i:Nat} {n:Int}:∀ (m:Nat),((i,n) ∈ wTo es ways m↔i<m∧∃ s ∈ ways.getD i [],(edge es s).1=n∨(edge es s).2=n)
 | 0=>by simp [wTo]
 | m+1=>by
  rw [wTo,List.mem_append,wTo_mem m]
  unfold tch tch1
  constructor
  ·rintro (⟨h1,h2⟩|h)
   ·exact ⟨by omega,h2⟩
   ·obtain ⟨s,hs,he⟩:=List.mem_flatMap.1 h
    rcases List.mem_cons.1 he with e|e
    ·injection e with e1 e2;subst e1;exact ⟨by omega,s,hs,.inl e2.symm⟩
    ·rw [List.mem_singleton] at e;injection e with e1 e2;subst e1;exact ⟨by omega,s,hs,.inr e2.symm⟩
  ·rintro ⟨h1,s,hs,he⟩
   rcases Nat.lt_succ_iff_lt_or_eq.1 h1 with e|rfl
   ·exact .inl ⟨e,s,hs,he⟩
   ·exact .inr (List.mem_flatMap.2 ⟨s,hs,by rcases he with he|he <;> simp [he]⟩)
end Go.Proofs.YtmkiphadkmodnaaGreat
