/- BfM, 41 -/
import Derived.Test.YtmkiphadkmodnaaGreatZBfM40
import Derived.Test.YtmkiphadkmodnaaGreatZBfM0
import Derived.Test.YtmkiphadkmodnaaGreatZBfM39
import Derived.Test.YtmkiphadkmodnaaGreatZBfM10
import Derived.Test.YtmkiphadkmodnaaGreatZBfM31
set_option linter.all false
set_option maxRecDepth 100000
set_option maxHeartbeats 8000000
namespace Go.Proofs.YtmkiphadkmodnaaGreat
open Go.RowKit Go.Maps
structure RX where
 A:Option Addr
 c:Nat
 n:Nat
 xs:List Value
def RX.v (x:RX):Value:=.slice x.A x.n x.c
structure RowsW (bo base:Nat) (tO tI:TypeId) (sz:Nat) (f:Nat->Nat) (ga N cA:Nat) (rs:List RX) (wx:World):Prop where
 out:wx.ownsRow bo tO 1 (.slice (some ⟨ga,0,none⟩) N cA) N (rs.map RX.v)
 rows:∀ (k:Nat) (x:RX),rs[k]? = some x->wx.ownsRow base tI sz x.v x.n x.xs∧∀ g,blkOf x.A=some g->f g=k
section
variable {bo base : Nat} {tO tI : TypeId} {sz : Nat} {f : Nat → Nat} {ga N cA k : Nat} {rs : List RX} {wx wy w3 : World} {x : RX}
theorem RowsW.drew (h:RowsW bo base tO tI sz f ga N cA rs wx):RowsW bo base tO tI sz f ga N cA rs wx.drew:=⟨h.out.drew,fun k x hx=>⟨(h.rows k x hx).1.drew,(h.rows k x hx).2⟩⟩
theorem RowsW.keep (h:RowsW bo base tO tI sz f ga N cA rs wx) (hb:Below wx.heap.size wx wy):RowsW bo base tO tI sz f ga N cA rs wy:=⟨own_keep h.out hb,fun k x hx=>⟨own_keep (h.rows k x hx).1 hb,(h.rows k x hx).2⟩⟩
theorem RowsW.down {bo' base':Nat} (h:RowsW bo base tO tI sz f ga N cA rs wx) (h1:bo'<=bo) (h2:base'<=base):RowsW bo' base' tO tI sz f ga N cA rs wx:=⟨own_down h.out h1,fun k x hx=>⟨own_down (h.rows k x hx).1 h2,(h.rows k x hx).2⟩⟩
theorem RowsW.len (h:RowsW bo base tO tI sz f ga N cA rs wx):rs.length=N:=by have:=h.out.1;rw [List.length_map] at this;omega
theorem RowsW.blk (h:RowsW bo base tO tI sz f ga N cA rs wx):∃ cs,Blk wx ga tO cs:=by
 rcases h.out.2 with ⟨h',_⟩|⟨g',cap',cur,h',_,hg,_⟩
 ·simp at h'
 ·simp only [Value.slice.injEq,Option.some.injEq,Addr.mk.injEq,and_true,true_and] at h'
  obtain ⟨rfl,-⟩:=h'
  exact ⟨cur,hg⟩
theorem RowsW.lo (h:RowsW bo base tO tI sz f ga N cA rs wx):bo<=ga∧ga<wx.heap.size:=h.out.lt ga rfl
theorem RowsW.cell (h:RowsW bo base tO tI sz f ga N cA rs wx) (hx:rs[k]? = some x):wx.cell? ⟨ga,k,none⟩=some x.v:=by
 have hk:k<rs.length:=(List.getElem?_eq_some_iff.1 hx).1
 rw [h.out.cellAt k (by have:=h.len;omega),List.getElem?_map,hx]
 rfl
theorem RowsW.free (h:RowsW bo base tO tI sz f ga N cA rs wx) (k:Nat):wx.frozen? ⟨ga,k,none⟩=false:=h.out.frozenAt k
theorem RowsW.start (ho:wx.ownsRow bo tO 1 (.slice (some ⟨ga,0,none⟩) N cA) N (List.replicate N (.slice none 0 0))):RowsW bo base tO tI sz (fun _=>0) ga N cA (List.replicate N ⟨none,0,0,[]⟩) wx:=by
 refine ⟨by rw [List.map_replicate];exact ho,fun k x hx=>?_⟩
 have:x=⟨none,0,0,[]⟩:=by
  rw [List.getElem?_replicate] at hx
  split at hx
  ·exact (Option.some.inj hx).symm
  ·cases hx
 subst this
 exact ⟨World.ownsRow_nil _ _ _ _,fun g hg=>by cases hg⟩
theorem RowsW.chg (h:RowsW bo base tO tI sz f ga N cA rs wx) {X:Nat->Prop} (hc:Chg wx wy X) (ho:∀ g,bo<=g->¬ X g) (hX:∀ g,base<=g->¬ X g):RowsW bo base tO tI sz f ga N cA rs wy :=
 ⟨hc.own h.out (fun g hg=>ho g (h.out.lt g hg).1),fun k x hx=>⟨hc.own (h.rows k x hx).1 (fun g hg=>hX g ((h.rows k x hx).1.lt g hg).1),(h.rows k x hx).2⟩⟩
theorem RowsW.turn {A3:Option Addr} {c3 m:Nat} {ys:List Value} {o:Obj} (hne:tO≠tI) (h:RowsW bo base tO tI sz f ga N cA rs wx) (hx:rs[k]? = some x)
  (hown:w3.ownsRow base tI sz (.slice A3 (x.n+m) c3) (x.n+m) (x.xs++ys))
  (hg:(wx.alloc o).grownBy w3 (blkOf x.A)) (hat:blkOf A3=blkOf x.A∨blkOf A3=some (wx.alloc o).heap.size) :
  RowsW bo base tO tI sz (named f wx.heap.size k) ga N cA (rs.set k ⟨A3,c3,x.n+m,x.xs++ys⟩) (w3.setCell ⟨ga,k,none⟩ (.slice A3 (x.n+m) c3)):=by
 have h1:=h.keep (bn_ wx o)
 have hs1:(wx.alloc o).heap.size=wx.heap.size+1:=by simp
 have hk:k<rs.length:=(List.getElem?_eq_some_iff.1 hx).1
 have hrk:=h1.rows k x hx
 have hrk0:=h.rows k x hx
 obtain ⟨cs1,hb1⟩:=h1.blk
 have hdis:∀ g,(Value.slice (some ⟨ga,0,none⟩) N cA).ownBlock=some g->¬ some g=blkOf x.A:=fun g h1' h2=>by
  have h3:g=ga:=by cases h1';rfl
  subst h3
  exact own_other hrk.1 hb1 (Ne.symm hne) (by unfold RX.v;rw [own_blk];exact h2.symm)
 have hout3:=(Chg.of_grown hg).own h1.out hdis
 have hst:=hout3.stored k (.slice A3 (x.n+m) c3)
 have hb3:∃ cs,Blk w3 ga tO cs:=by
  rcases hout3.2 with ⟨h',_⟩|⟨g',cap',cur,h',_,hg,_⟩
  ·simp at h'
  ·simp only [Value.slice.injEq,Option.some.injEq,Addr.mk.injEq,and_true,true_and] at h'
   obtain ⟨rfl,-⟩:=h'
   exact ⟨cur,hg⟩
 obtain ⟨cs3,hb3⟩:=hb3
 have hC:=Chg.set w3 ga k (.slice A3 (x.n+m) c3)
 refine ⟨?_,fun j y hj=>?_⟩
 ·rw [List.map_set];exact hst.1
 ·rw [List.getElem?_set] at hj
  by_cases e:k=j
  ·subst e
   rw [if_pos rfl,if_pos hk] at hj
   cases hj
   refine ⟨hC.own hown (fun g e hk=>own_other hown hb3 (Ne.symm hne) (by rw [<- hk];exact e)),?_⟩
   refine named_new hrk0.2 (fun g hg=>(hrk0.1.lt g (by unfold RX.v;rw [own_blk];exact hg)).2) ?_
   rcases hat with hat|hat
   ·exact .inl hat
   ·exact .inr (fun g hg=>by rw [show blkOf A3=some g from hg] at hat;have:=Option.some.inj hat;omega)
  ·rw [if_neg e] at hj
   have hr:=h1.rows j y hj
   have hr0:=h.rows j y hj
   have hd:∀ g,y.v.ownBlock=some g->¬ some g=blkOf x.A:=fun g hg1 hg2=>by
    unfold RX.v at hg1
    rw [own_blk] at hg1
    have e1:=hr.2 g hg1
    have e2:=hrk.2 g hg2.symm
    omega
   have ho:=(Chg.of_grown hg).own hr.1 hd
   refine ⟨hC.own ho (fun g e hk=>own_other ho hb3 (Ne.symm hne) (by rw [<- hk];exact e)),fun g hg=>?_⟩
   rw [named_old f (hr0.1.lt g (by unfold RX.v;rw [own_blk];exact hg)).2]
   exact hr0.2 g hg
theorem RowsW.still {o:Obj} (hne:tO≠tI) (h:RowsW bo base tO tI sz f ga N cA rs wx) (hx:rs[k]? = some x) (hg:(wx.alloc o).grownBy w3 (blkOf x.A)) :
  w3.cell? ⟨ga,k,none⟩=some x.v∧w3.frozen? ⟨ga,k,none⟩=false:=by
 have h1:=h.keep (bn_ wx o)
 have hrk:=h1.rows k x hx
 obtain ⟨cs1,hb1⟩:=h1.blk
 have hb3:=hb1.grown hg (fun e=>own_other hrk.1 hb1 (Ne.symm hne) (by unfold RX.v;rw [own_blk];exact e.symm))
 exact ⟨(hb3.cell k).trans ((hb1.cell k).symm.trans (h1.cell hx)),hb3.free k⟩
end
def evAt (ev:List (Nat × List Value)) (n:Nat):List Value:=ev.flatMap fun e=>if e.1=n then e.2 else []
theorem evAt_next (ev:List (Nat × List Value)) (e:Nat × List Value) (n:Nat):evAt (ev++[e]) n=evAt ev n++(if e.1=n then e.2 else []):=by unfold evAt;rw [List.flatMap_append];simp
def RowsAt (rs:List RX) (ev:List (Nat × List Value)):Prop:=∀ (k:Nat) (x:RX),rs[k]? = some x->x.xs=evAt ev k
theorem RowsAt.start (N:Nat):RowsAt (List.replicate N ⟨none,0,0,[]⟩) []:=fun k x hx=>by
 rw [List.getElem?_replicate] at hx
 split at hx
 ·rw [<- Option.some.inj hx];rfl
 ·cases hx
theorem RowsAt.turn {rs:List RX} {ev:List (Nat × List Value)} {k:Nat} {x:RX} (h:RowsAt rs ev) (hx:rs[k]? = some x) (A:Option Addr) (c m:Nat) (ys:List Value):RowsAt (rs.set k ⟨A,c,m,x.xs++ys⟩) (ev++[(k,ys)]):=fun j y hj=>by
 rw [evAt_next]
 rw [List.getElem?_set] at hj
 by_cases e:k=j
 ·subst e
  rw [if_pos rfl,if_pos (List.getElem?_eq_some_iff.1 hx).1] at hj
  cases hj
  rw [if_pos rfl,<- h k x hx]
 ·rw [if_neg e] at hj
  rw [if_neg e,List.append_nil]
  exact h j y hj
theorem evAt_len {ev:List (Nat × List Value)} {sz:Nat} (h:∀ e ∈ ev,e.2.length=sz) (n:Nat):(evAt ev n).length<=ev.length*sz:=by
 induction ev with
 | nil=>simp [evAt]
 | cons e ev ih =>
  have h1:=ih (fun u hu=>h u (List.mem_cons_of_mem _ hu))
  have h2:=h e (List.mem_cons_self ..)
  unfold evAt at h1 ⊢
  rw [List.flatMap_cons,List.length_append,List.length_cons,Nat.succ_mul]
  split
  ·omega
  ·rw [List.length_nil];omega
theorem app_runs (ts te ty:TypeId) (hts:Tryz.prog.underlying ts=some (.slice te)) (z:Value) (sz bytes:Nat) (hinfo:(Tryz.prog.info? te).map (fun i=>(i.zero,i.size,i.bytes))=some (some z,sz,bytes)) (hzs:z.cells.size=sz) (hsz:0<sz) (hby:bytes<=100000)
  {W:World} (base:Nat) (A:Option Addr) (k c:Nat) (L:List Value) (O:W.ownsRow base te sz (.slice A k c) k L)
  (ad:Addr) (m d:Nat) (M:List Value) (hr:Rd W sz (some ad) m d M) (h1:∀ u ∈ M,u.oneCell'=true) (hk:k+m<=100000000) (hb:base<=W.heap.size) :
  ∃ A' c' w',(Builtin.append_ #[ts,ts] ty #[.slice A k c,.slice (some ad) m d]).run Tryz.prog W=.ok (.slice A' (k+m) c') w'∧w'.ownsRow base te sz (.slice A' (k+m) c') (k+m) (L++M)∧W.grownBy w' (blkOf A)∧(blkOf A'=blkOf A∨blkOf A'=some W.heap.size):=by
 obtain ⟨i0,hi0,hz0,hz1,hz2⟩:=info_parts hinfo
 obtain ⟨v',w',hrun,h2,h3,-,h5⟩:=run_append_own_at (P:=Tryz.prog) W base ts ty te i0 z sz bytes hts hi0 hz0 hz1 hz2 hzs hsz (.slice A k c) k L O ad m d M hr.len (fun j u hj=>by
  obtain ⟨a',e,-,hc⟩:=hr.read j u hj
  obtain rfl:=Option.some.inj e
  exact hc) h1 (by unfold maxLen;omega) (by have:=Nat.mul_le_mul hk hby;omega) hb
 obtain ⟨A',c',rfl⟩:=own_slice h2
 rw [own_blk] at h3 h5
 rw [own_blk] at h5
 exact ⟨A',c',w',hrun,h2,h3,h5⟩
theorem ints_one {l:List Int}:∀ u ∈ ints l,u.oneCell'=true:=by
 intro u hu
 unfold ints at hu
 obtain ⟨x,-,rfl⟩:=List.mem_map.1 hu
 rfl
def seenB (N:Nat) (L:List Int):List Bool:=(List.range N).map fun (n:Nat)=>decide ((n:Int) ∈ L)
theorem seenB_len (N:Nat) (L:List Int):(seenB N L).length=N:=by unfold seenB;rw [List.length_map,List.length_range]
theorem seenB_nil (N:Nat):seenB N []=List.replicate N false:=by unfold seenB;rw [List.eq_replicate_iff];exact ⟨by simp,fun x hx=>by obtain ⟨n,-,rfl⟩:=List.mem_map.1 hx;simp⟩
theorem seenB_get {N:Nat} {L:List Int} {n:Nat} (h:n<N):(seenB N L).getD n false=decide ((n:Int) ∈ L):=by
 unfold seenB
 rw [List.getD_eq_getElem?_getD,List.getElem?_map,List.getElem?_range h]
 rfl
theorem seenB_put {N:Nat} {L:List Int} {n:Nat}:(seenB N L).set n true=seenB N (L++[(n:Int)]):=by
 apply List.ext_getElem?
 intro j
 rw [List.getElem?_set]
 unfold seenB
 by_cases hj:j<N
 ·rw [List.getElem?_map,List.getElem?_range hj,List.getElem?_map,List.getElem?_range hj,List.length_map,List.length_range]
  by_cases e:n=j
  ·subst e;rw [if_pos rfl,if_pos hj];simp
  ·rw [if_neg e]
   have:¬ ((j:Int)=(n:Int)):=by omega
   simp [this]
 ·rw [List.getElem?_eq_none (by rw [List.length_map,List.length_range];omega),List.getElem?_eq_none (by rw [List.length_map,List.length_range];omega)]
  split
  ·rw [if_neg (by rw [List.length_map,List.length_range];omega)]
  ·rfl
def eL (f:Int) (l:List Int):Nat->List (Int × Int)
 | 0=>[]
 | k+1=>eAt f l k
def eK (k:Nat):Int:=if k=0 then 1 else 2
theorem eL_next {f:Int} {l:List Int} {k:Nat} (hk:k<(f::l).length):eL f l (k+1)=eL f l k++[(eK k,(f::l).getD k 0)]:=by
 cases k with
 | zero=>rfl
 | succ k=>exact eAt_next (by simpa using hk)
theorem no_end {W H T:Int} {ws:List WM} {i k:Nat} (hi:i<ws.length) (hk:k<(ws[i].1::ws[i].2.2.2).length) (h:¬ (endOk W H T (eK k) ((ws[i].1::ws[i].2.2.2).getD k 0)∧(ws[i].1::ws[i].2.2.2).getD k 0 ∉ (eTo ws i++eL ws[i].1 ws[i].2.2.2 k).map (·.2))):¬ MayP W H T (wpl ws):=by
 cases k with
 | zero=>exact no_from hi (by simpa [eL,eK] using h)
 | succ k=>exact no_to hi (by simpa using hk) (by simpa [eL,eK] using h)
theorem isN_of {W H T n:Int} (h:okA W H T) (he:whE W H T n=0):0<=n∧n<nodesI W H T:=by
 by_cases hn:isN W H T n
 ·exact hn.2
 ·have:=(wh_no hn).2.2.2.2
  rw [he] at this
  cases this
theorem rmay30_any (W H T:Int) (A:Option Addr) (c:Nat) (ws:List WM) (w:World) (hin:WsIn w A c ws) (hf:WsFit ws) (hok:okA W H T) :
  Calls Tryz.prog 84 #[.agg #[.int .i64 W,.int .i64 H,.int .i64 T],.slice A ws.length c] w fun e w'=>e=.returned (.bool (decide (MayP W H T (wpl ws))))∧Below w.heap.size w w':=by
 have HI:=hd_ hin
 have HF:=hd_ hf
 have HOKA:=hd_ hok
 have hno:nodesO W H T=nodesI W H T:=if_pos hok
 have hnb:=nodes_bd hok
 have HC:=hd_ (rnodes_any W H T)
 have HNB:=hd_ (fun (n:Int) (he:whE W H T n=0)=>isN_of hok he)
 rw [hno] at HC
 obtain ⟨N,hN⟩:∃ N:Nat,nodesI W H T=(N:Int):=⟨(nodesI W H T).toNat,by omega⟩
 rw [hN] at HC hnb HNB
 obtain ⟨n,hn⟩:∃ n,ws.length=n:=⟨_,rfl⟩
 have HN:=hd_ hn
 have hn3:n<=100000:=by rw [<- hn];exact hf.n
 obtain ⟨d,hd⟩:∃ d,decide (MayP W H T (wpl ws))=d:=⟨_,rfl⟩
 have HD:=hd_ hd
 rw [hn,hd]
 have Q0:=hd_ (bn_ w (.cells #[.int .i64 W,.int .i64 H,.int .i64 T] 23))
 have X0:=hd_ (Blk.made w 23 #[.int .i64 W,.int .i64 H,.int .i64 T])
 have a0:=X0.out.cell 0
 have a1:=X0.out.cell 1
 have a2:=X0.out.cell 2
 clear hin hf hn hd hok hno hN
 obtain ⟨i0,hi0,hz0,hz1,hz2⟩:=info_parts bool_infoA
 have HI0:=hd_ hi0
 have HZ0:=hd_ hz0
 have HZ1:=hd_ hz1
 have HZ2:=hd_ hz2
 clear hi0 hz0 hz1 hz2
 go_enter Tryz.func84,Tryz.ntmps84
 go_wp2_with fail
 refine (HC.out _).mono ?_
 rintro e w1 ⟨rfl,hb1⟩
 have Q1:=hd_ (bt_ Q0.out hb1)
 have X1:=hd_ (X0.out.keep hb1)
 clear hb1 a0 a1 a2 X0
 go_wp2_with ((with_reducible refine wpList_make_part _ rfl (.tmp 16) (.tmp 16) 35 rfl 4 i0 (.bool false) Tryz.underlying35 HI0.out HZ0.out HZ1.out (bool_cells false) .i64 .i64 _ _ N N rfl rfl (by omega) (by omega) (Nat.le_refl _) ?c1 (by omega) ?_))
 case c1=>rw [HZ2.out];omega
 intro w2 hown2 hb2
 have M0:=hd_ (show BitsB w2 w1.heap.size (seenB N []) from by
  have h:=blk_of_own hown2
  rw [show List.replicate N (Value.bool false)=bools (List.replicate N false) by simp [bools],<- seenB_nil] at h
  exact h)
 have Q2:=hd_ (bt_ Q1.out hb2)
 have X2:=hd_ (X1.out.keep hb2)
 have hgs:w.heap.size<w1.heap.size:=X1.out.lt
 clear hown2 hb2
 go_wp2_with fail
 generalize w1.heap.size=g at M0 hgs ⊢
 have hg2:g<w2.heap.size:=M0.out.lt
 have HX:=hd_ (show ∀ W':World,Chg w2 W' (fun k=>k=g)->Blk W' w.heap.size 23 #[.int .i64 W,.int .i64 H,.int .i64 T] from fun W' hW=>hW.blk X2.out (by omega))
 have HQ:=hd_ (show ∀ W':World,Chg w2 W' (fun k=>k=g)->Below w.heap.size w W' from fun W' hW=>hW.below Q2.out Q2.out.size (fun k hk=>by omega))
 go_loopw [6] (fun v6 wx=>∃ i:Nat,i<=n∧v6=.int .i64 (i:Int)∧BitsB wx g (seenB N ((eTo ws i).map (·.2)))∧Chg w2 wx (fun k=>k=g)∧Hid (MayP W H T (wpl (ws.take i)))) (fun v6 _=>n-(intOf v6).toNat)
 case atStart=>exact ⟨0,by omega,rfl,M0.out,Chg.refl _ _,hd_ ⟨fun v hv=>(by cases hv),⟨fun e he=>(by cases he),List.nodup_nil⟩⟩⟩
 case round =>
  clear M0
  obtain ⟨i,hi,rfl,hm,hc,HOK⟩:=hrel
  have MM:=hd_ hm
  have CC:=hd_ hc
  clear hm hc
  by_cases hin:i<n
  case neg =>
   obtain rfl:n=i:=by omega
   have hlt:¬ (n:Int)<(n:Int):=by omega
   have hz:=hd_ (show d=true by
    have h:=HOK.out
    rw [List.take_of_length_le (by rw [HN.out];exact Nat.le_refl _)] at h
    rw [<- HD.out];exact decide_eq_true h)
   go_wp2_with fail
   go_ret
   exact ⟨by rw [hz.out];rfl,HQ.out _ CC.out⟩
  have hin':(i:Int)<(n:Int):=by omega
  have hil:i<ws.length:=by rw [HN.out];exact hin
  obtain ⟨g0,g1⟩:=wcells_get ws i hil
  obtain ⟨pa,hPA,hpb,e0,e1⟩:=((HI.out.row).later (HQ.out _ CC.out)).two g0 g1
  obtain ⟨ga,hga⟩:∃ p,pa.add (i*2)=p:=⟨_,rfl⟩
  have hgab:ga.block<wr.heap.size:=by rw [<- hga,add_block];exact hpb
  rw [hga] at e0 e1
  have hea:=HI.out.all _ (List.getElem_mem hil)
  have hll:=HF.out.l hil
  have HNE:=hd_ (show ws[i].2.2.2=[]->d=false from fun h=>by rw [<- HD.out];exact decide_eq_false (no_empty hil h))
  have HNT:=hd_ (show ∀ k,k<(ws[i].1::ws[i].2.2.2).length->¬ (endOk W H T (eK k) ((ws[i].1::ws[i].2.2.2).getD k 0)∧(ws[i].1::ws[i].2.2.2).getD k 0 ∉ (eTo ws i++eL ws[i].1 ws[i].2.2.2 k).map (·.2))->d=false from fun k hk h=>by rw [<- HD.out];exact decide_eq_false (no_end hil hk h))
  have HNX:=hd_ (eTo_next hil)
  have HTK:=hd_ (show ws[i].2.2.2≠[]->OkE W H T (eTo ws (i+1))->MayP W H T (wpl (ws.take (i+1))) from fun h1 h2=>⟨fun v hv=>by
   rw [List.take_succ_eq_append_getElem hil] at hv
   unfold wpl at hv
   rw [List.map_append] at hv
   rcases List.mem_append.1 hv with hv|hv
   ·exact HOK.out.1 v hv
   ·rw [List.map_singleton,List.mem_singleton] at hv;subst hv;exact h1,h2⟩)
  generalize ws[i]'hil=y at e0 e1 hea hll HNE HNT HNX HTK
  obtain ⟨f,yA,yc,l⟩:=y
  simp only [slv] at e0 e1 hea hll HNE HNT HNX HTK
  obtain ⟨q,hq⟩:∃ q,l.length=q:=⟨_,rfl⟩
  have HQL:=hd_ hq
  rw [hq] at e1 hll hea
  rw [hPA]
  clear hPA hq
  by_cases h0:q=0
  ·have hz:=hd_ (HNE.out (List.length_eq_zero_iff.1 (by rw [HQL.out];exact h0)))
   have hd0:((q:Int)==0)=true:=by rw [h0];rfl
   clear h0
   go_wp2_with fail
   go_ret
   exact ⟨by rw [hz.out];rfl,HQ.out _ CC.out⟩
  have hd0:((q:Int)==0)=false:=by rw [beq_eq_false_iff_ne];omega
  have HQ0:=hd_ h0
  cases yA with
  | none=>exact absurd (by have:=hea.nil rfl;have:=hea.cap;omega) h0
  | some ya =>
   have HEA:=hd_ hea
   have HS:=hd_ (show ∀ W':World,Below wr.heap.size wr W'->(W'.cell? ga=some (.int .i64 f)∧W'.cell? ⟨ga.block,ga.off+1,none⟩=some (.slice (some ya) q yc)) from fun W' hW=>⟨(hW.cell hgab).trans e0,(hW.cell (p:=⟨ga.block,ga.off+1,none⟩) hgab).trans e1⟩)
   clear h0 hea
   go_upto_region 7 with (fail)
   clear e0 e1
   refine wp_region_held_drew (S:=(fun w'=>w'.cell? ga=some (.int .i64 f)∧w'.cell? ⟨ga.block,ga.off+1,none⟩=some (.slice (some ya) q yc))) (by kernel_rfl) ?_ (fun hh=>?_)
   ·(first|exact HS.out _ br_|exact HS.out _ bd_|exact HS.out _ (bt_ bd_ (bn_ _ _))|exact HS.out _ B9.out)
   refine tk_ 0 (⟨some 31,.move (.tmp 1),53,_,#[],none⟩) (v:=?_) ?_ ?_
   rotate_left
   ·intro w hSw;(try dsimp only at hSw);go_simp;(try with_reducible rfl)
   try simp only [Act.put,la_,lz_,ls_]
   refine tk_ 1 (⟨some 32,.move (.tmp 6),3,_,#[],none⟩) (v:=?_) ?_ ?_
   rotate_left
   ·intro w hSw;(try dsimp only at hSw);go_simp;(try with_reducible rfl)
   try simp only [Act.put,la_,lz_,ls_]
   refine tk_ 2 (⟨some 33,.indexAddr 53 (.tmp 31) (.tmp 32),0,_,#[⟨0,.data⟩,⟨1,.data⟩],none⟩) (v:=?_) ?_ ?_
   rotate_left
   ·intro w hSw;(try dsimp only at hSw);go_simp;(try with_reducible rfl)
   try simp only [Act.put,la_,lz_,ls_]
   refine tk_ 3 (⟨some 34,.fieldAddr 87 (.tmp 33) 0,0,_,#[⟨2,.data⟩],none⟩) (v:=?_) ?_ ?_
   rotate_left
   ·intro w hSw;(try dsimp only at hSw);go_simp;(try with_reducible rfl)
   try simp only [Act.put,la_,lz_,ls_]
   refine tk_ 4 (⟨some 35,.load 3 (.tmp 34),3,_,#[⟨3,.data⟩],none⟩) (v:=?_) ?_ ?_
   rotate_left
   ·intro w hSw;(try dsimp only at hSw);go_simp;(try with_reducible rfl)
   try simp only [Act.put,la_,lz_,ls_]
   refine tk_ 6 (⟨some 37,.move (.tmp 1),53,_,#[],none⟩) (v:=?_) ?_ ?_
   rotate_left
   ·intro w hSw;(try dsimp only at hSw);go_simp;(try with_reducible rfl)
   try simp only [Act.put,la_,lz_,ls_]
   refine tk_ 7 (⟨some 38,.move (.tmp 6),3,_,#[],none⟩) (v:=?_) ?_ ?_
   rotate_left
   ·intro w hSw;(try dsimp only at hSw);go_simp;(try with_reducible rfl)
   try simp only [Act.put,la_,lz_,ls_]
   refine tk_ 8 (⟨some 39,.indexAddr 53 (.tmp 37) (.tmp 38),0,_,#[⟨6,.data⟩,⟨7,.data⟩],none⟩) (v:=?_) ?_ ?_
   rotate_left
   ·intro w hSw;(try dsimp only at hSw);go_simp;(try with_reducible rfl)
   try simp only [Act.put,la_,lz_,ls_]
   refine tk_ 9 (⟨some 40,.fieldAddr 87 (.tmp 39) 1,0,_,#[⟨8,.data⟩],none⟩) (v:=?_) ?_ ?_
   rotate_left
   ·intro w hSw;(try dsimp only at hSw);go_simp;(try with_reducible rfl)
   try simp only [Act.put,la_,lz_,ls_]
   refine tk_ 10 (⟨some 41,.load 25 (.tmp 40),25,_,#[⟨9,.data⟩],none⟩) (v:=?_) ?_ ?_
   rotate_left
   ·intro w hSw;(try dsimp only at hSw);go_simp;(try with_reducible rfl)
   try simp only [Act.put,la_,lz_,ls_]
   refine rd_ [5] ?_
   refine AllReadyH.cons (o:=⟨some 36,.buildSlice 25 1 #[(0,.tmp 35)],25,_,#[⟨4,.data⟩],none⟩) rfl (fun K hK=>?_) AllReadyH.nil
   go_simp
   refine hK.out _ _ ?_ (fun hh=>?_)
   ·(first|exact HS.out _ br_|exact HS.out _ bd_|exact HS.out _ (bt_ bd_ (bn_ _ _))|exact HS.out _ B9.out)
   clear hK K
   try simp only [Act.put,la_,lz_,ls_]
   refine rd_ [11] ?_
   refine AllReadyH.cons (o:=⟨some 42,.call { callee:=.builtin Builtin.append,args:=#[.tmp 36,.tmp 41],argTypes:=#[25,25] },25,_,#[⟨5,.data⟩,⟨10,.data⟩],none⟩) rfl (fun K hK=>?_) AllReadyH.nil
   have O8:=hd_ (World.ownsRow_lit (base:=wr.heap.size) (e:=3) (size:=1) wr.drew #[.int .i64 f] 1 (by simp) (by unfold maxLen;omega) rfl)
   obtain ⟨A9,k9,u9,hrun9,hown9,hgr9,hat9⟩:=app_runs 25 3 25 Tryz.underlying25 _ 1 8 int_infoA rfl (by decide) (by decide) wr.heap.size (some ⟨wr.drew.heap.size,0,none⟩) 1 1 [.int .i64 f] O8.out ya q yc (ints l) (HEA.out.later (bt_ (HQ.out _ CC.out) (bt_ bd_ (bn_ _ _)))) ints_one (by omega) (by simp)
   refine step_app_run (by rfl) (.tmp 36) (.tmp 41) 25 25 (by rfl) (.slice (some ⟨wr.heap.size,0,none⟩) 1 1) (.slice (some ya) q yc) (by rfl) (by rfl) hrun9 ?_
   have B9:=hd_ ((bt_ bd_ (bn_ wr.drew (.cells #[.int .i64 f] 3))).grown hgr9 (by simp) (fun k hk=>own_base O8.out (by rw [own_blk];exact hk)))
   have O9:=hd_ (show u9.ownsRow wr.heap.size 3 1 (.slice A9 (1+q) k9) (1+q) (ints (f::l)) from hown9)
   clear hown9 hgr9 hat9 hrun9
   refine hK.out _ _ ?_ (fun hh=>?_)
   ·(first|exact HS.out _ br_|exact HS.out _ bd_|exact HS.out _ (bt_ bd_ (bn_ _ _))|exact HS.out _ B9.out)
   clear hK K
   try simp only [Act.put,la_,lz_,ls_]
   refine tk_ 12 (⟨some 7,.assign (.tmp 42),25,_,#[⟨11,.data⟩,⟨11,.chain⟩,⟨0,.phase⟩,⟨1,.phase⟩,⟨2,.phase⟩,⟨3,.phase⟩,⟨4,.phase⟩,⟨5,.phase⟩,⟨6,.phase⟩,⟨7,.phase⟩,⟨8,.phase⟩,⟨9,.phase⟩,⟨10,.phase⟩,⟨11,.phase⟩],none⟩) (v:=?_) ?_ ?_
   rotate_left
   ·intro w hSw;(try dsimp only at hSw);go_simp;(try with_reducible rfl)
   try simp only [Act.put,la_,lz_,ls_]
   refine wpAnyH_done (by kernel_rfl) ?_ _
   have M9:=hd_ (Blk.keep MM.out B9.out)
   have C9:=hd_ (CC.out.belowB B9.out)
   have E9:=hd_ (Rd.of_own O9.out)
   generalize hr:1+q=r at O9 ⊢
   have HRL:=hd_ (show (f::l).length=r by rw [List.length_cons,HQL.out];omega)
   have hr1:r<=100001:=by omega
   have hgr:g<wr.heap.size:=MM.out.lt
   have HR:=hd_ (show ∀ W':World,Chg u9 W' (fun k=>k=g)->Rd W' 1 A9 r k9 (ints (f::l)) from fun W' hW=>(Rd.of_own O9.out).chg hW (fun k hk=>by have:=own_base O9.out (by rw [own_blk];exact hk);omega))
   have HC9:=hd_ (show ∀ W':World,Chg u9 W' (fun k=>k=g)->Chg w2 W' (fun k=>k=g) from fun W' hW=>(C9.out.trans hW).mono' (fun k hk=>hk.elim id id))
   clear hr O9 O8 B9 MM CC HS
   go_wp2_with fail
   go_loopw [8] (fun v8 wx=>∃ k:Nat,k<=r∧v8=.int .i64 (k:Int)∧BitsB wx g (seenB N ((eTo ws i++eL f l k).map (·.2)))∧Chg u9 wx (fun k=>k=g)∧Hid (OkE W H T (eTo ws i++eL f l k))) (fun v8 _=>r-(intOf v8).toNat)
   case atStart=>exact ⟨0,by omega,rfl,by unfold eL;rw [List.append_nil];exact M9.out,Chg.refl _ _,hd_ (by unfold eL;rw [List.append_nil];exact HOK.out.2)⟩
   case round =>
    clear M9
    obtain ⟨k,hk,rfl,hm,hc,HO⟩:=hrel
    have MM:=hd_ hm
    have CC:=hd_ hc
    clear hm hc
    by_cases hkr:k<r
    case neg =>
     obtain rfl:r=k:=by omega
     have hlt:¬ (r:Int)<(r:Int):=by omega
     have HLE:=hd_ (show eTo ws i++eL f l r=eTo ws (i+1) by rw [HNX.out,<- HRL.out];rfl)
     go_wp2_with fail
     go_roundw
     case rel=>exact ⟨i+1,by omega,by go_num,by rw [<- HLE.out];exact MM.out,HC9.out _ CC.out,hd_ (HTK.out (fun e=>HQ0.out (by rw [<- HQL.out,e];rfl)) (by rw [<- HLE.out];exact HO.out))⟩
     case measure=>simp [intOf];omega
    have hkr':(k:Int)<(r:Int):=by omega
    have hkl:k<(f::l).length:=by rw [HRL.out];exact hkr
    obtain ⟨pe,hPE,hpeb,e0⟩:=(HR.out _ CC.out).int (k:=k) hkr
    have HNK:=hd_ (HNT.out k hkl)
    have HNXK:=hd_ (eL_next (f:=f) (l:=l) hkl)
    generalize (f::l).getD k 0=x at e0 HNK HNXK
    have XX:=hd_ (HX.out _ (HC9.out _ CC.out))
    have a0:=XX.out.cell 0
    have a1:=XX.out.cell 1
    have a2:=XX.out.cell 2
    rw [hPE]
    clear hPE hkl
    go_wp2_with fail
    refine wp_region_still_in (by kernel_rfl) (by kernel_rfl) fun St9 ne9 V9 hV9 hS9=>?_
    have qa0:=still_cell hV9 a0
    have qa1:=still_cell hV9 a1
    have qa2:=still_cell hV9 a2
    have qe0:=still_cell hV9 e0
    repeat (first|go_big_quiet_step ((go_at_call 111;exact Calls.still hV9 hS9 (rwhat_any W H T x _)))|quiet_step ((go_at_call 111;exact Calls.still hV9 hS9 (rwhat_any W H T x _))))
    refine wpQuiet_nil ?_
    intro _ hw9
    obtain ⟨s9,rfl⟩:=hw9
    have hb9:=hV9 s9
    clear qa0 qa1 qa2 qe0 hS9
    generalize V9 s9=w9 at hb9 ⊢
    clear hV9 s9 V9 ne9 St9
    have C5:=hd_ (CC.out.belowB hb9)
    have M5:=hd_ (Blk.keep MM.out hb9)
    have e5:=(hb9.cell (p:=pe.add k) (by rw [add_block];exact hpeb)).trans e0
    clear e0 a0 a1 a2 hb9 hpeb MM CC
    have HEE:=hd_ (show whE W H T x=0∨whE W H T x=1 from by unfold whE;split;exact .inl rfl;exact .inr rfl)
    generalize hkk:whK W H T x=kk
    have HKK:=hd_ hkk
    clear hkk
    have HCL:=hd_ (show True from trivial)
    by_cases c3:kk=3
    case pos =>
     have h3:(kk==3)=true:=by rw [c3];rfl
     have HFT:=hd_ (show kk=eK k∨kk=3 from .inr c3)
     clear HCL c3
     rcases HEE.out with hee|hee
     ·have HE0:=hd_ hee
      rw [hee]
      obtain ⟨m,rfl⟩:∃ m:Nat,x=(m:Int):=⟨x.toNat,by have:=HNB.out x hee;omega⟩
      have hmN:m<N:=by have:=HNB.out _ hee;omega
      have hmN':(m:Int)<(N:Int):=by omega
      have b0:=BitsB.at_ M5.out (a:=m) (by rw [seenB_len];exact hmN)
      rw [seenB_get hmN] at b0
      obtain ⟨sb,hsb⟩:∃ sb,decide ((m:Int) ∈ (eTo ws i++eL f l k).map (·.2))=sb:=⟨_,rfl⟩
      rw [hsb] at b0
      have HSB:=hd_ hsb
      have f0:=Blk.free M5.out m
      clear hsb hee
      cases sb with
      | true =>
       have hz:=hd_ (HNK.out (fun h=>h.2 (of_decide_eq_true HSB.out)))
       go_wp2_with fail
       go_ret
       exact ⟨by rw [hz.out];rfl,HQ.out _ (HC9.out _ C5.out)⟩
      | false =>
       go_wp2_with fail
       go_roundw
       case rel=>exact ⟨k+1,by omega,by go_num,by have h:=BitsB.set M5.out m true;rw [seenB_put] at h;rw [HNXK.out,<- List.append_assoc,List.map_append];exact h,C5.out.setSame _,hd_ (by rw [HNXK.out,<- List.append_assoc];exact OkE.next HO.out ⟨HE0.out,by rw [HKK.out];exact HFT.out⟩ (of_decide_eq_false HSB.out))⟩
       case measure=>simp [intOf];omega
     ·have hz:=hd_ (HNK.out (fun h=>by have h1:=h.1.1;rw [hee] at h1;cases h1))
      rw [hee]
      clear hee
      go_wp2_with fail
      go_ret
      exact ⟨by rw [hz.out];rfl,HQ.out _ (HC9.out _ C5.out)⟩
    case neg =>
     have h3:(kk==3)=false:=by rw [beq_eq_false_iff_ne];exact c3
     by_cases ck:k=0
     case pos =>
      have hz0:((k:Int)==0)=true:=by rw [ck];rfl
      have hg0:¬ (0:Int)<(k:Int):=by omega
      by_cases c1:kk=1
      case pos =>
       have h1:(kk==1)=true:=by rw [c1];rfl
       have HFT:=hd_ (show kk=eK k∨kk=3 from .inl (by rw [c1];unfold eK;rw [if_pos ck]))
       clear HCL c3 ck c1
       rcases HEE.out with hee|hee
       ·have HE0:=hd_ hee
        rw [hee]
        obtain ⟨m,rfl⟩:∃ m:Nat,x=(m:Int):=⟨x.toNat,by have:=HNB.out x hee;omega⟩
        have hmN:m<N:=by have:=HNB.out _ hee;omega
        have hmN':(m:Int)<(N:Int):=by omega
        have b0:=BitsB.at_ M5.out (a:=m) (by rw [seenB_len];exact hmN)
        rw [seenB_get hmN] at b0
        obtain ⟨sb,hsb⟩:∃ sb,decide ((m:Int) ∈ (eTo ws i++eL f l k).map (·.2))=sb:=⟨_,rfl⟩
        rw [hsb] at b0
        have HSB:=hd_ hsb
        have f0:=Blk.free M5.out m
        clear hsb hee
        cases sb with
        | true =>
         have hz:=hd_ (HNK.out (fun h=>h.2 (of_decide_eq_true HSB.out)))
         go_wp2_with fail
         go_ret
         exact ⟨by rw [hz.out];rfl,HQ.out _ (HC9.out _ C5.out)⟩
        | false =>
         go_wp2_with fail
         go_roundw
         case rel=>exact ⟨k+1,by omega,by go_num,by have h:=BitsB.set M5.out m true;rw [seenB_put] at h;rw [HNXK.out,<- List.append_assoc,List.map_append];exact h,C5.out.setSame _,hd_ (by rw [HNXK.out,<- List.append_assoc];exact OkE.next HO.out ⟨HE0.out,by rw [HKK.out];exact HFT.out⟩ (of_decide_eq_false HSB.out))⟩
         case measure=>simp [intOf];omega
       ·have hz:=hd_ (HNK.out (fun h=>by have h1:=h.1.1;rw [hee] at h1;cases h1))
        rw [hee]
        clear hee
        go_wp2_with fail
        go_ret
        exact ⟨by rw [hz.out];rfl,HQ.out _ (HC9.out _ C5.out)⟩
      case neg =>
       have h1:(kk==1)=false:=by rw [beq_eq_false_iff_ne];exact c1
       have HFT:=hd_ (show ¬ (kk=eK k∨kk=3) from by unfold eK;rw [if_pos ck];exact fun h=>h.elim c1 c3)
       clear HCL c3 ck c1
       rcases HEE.out with hee|hee
       ·have HE0:=hd_ hee
        rw [hee]
        have hz:=hd_ (HNK.out (fun h=>HFT.out (by rw [<- HKK.out];exact h.1.2)))
        clear hee
        go_wp2_with fail
        go_ret
        exact ⟨by rw [hz.out];rfl,HQ.out _ (HC9.out _ C5.out)⟩
       ·have hz:=hd_ (HNK.out (fun h=>by have h1:=h.1.1;rw [hee] at h1;cases h1))
        rw [hee]
        clear hee
        go_wp2_with fail
        go_ret
        exact ⟨by rw [hz.out];rfl,HQ.out _ (HC9.out _ C5.out)⟩
     case neg =>
      have hz0:((k:Int)==0)=false:=by rw [beq_eq_false_iff_ne];omega
      have hg0:(0:Int)<(k:Int):=by omega
      by_cases c2:kk=2
      case pos =>
       have h2:(kk==2)=true:=by rw [c2];rfl
       have HFT:=hd_ (show kk=eK k∨kk=3 from .inl (by rw [c2];unfold eK;rw [if_neg ck]))
       clear HCL c3 ck c2
       rcases HEE.out with hee|hee
       ·have HE0:=hd_ hee
        rw [hee]
        obtain ⟨m,rfl⟩:∃ m:Nat,x=(m:Int):=⟨x.toNat,by have:=HNB.out x hee;omega⟩
        have hmN:m<N:=by have:=HNB.out _ hee;omega
        have hmN':(m:Int)<(N:Int):=by omega
        have b0:=BitsB.at_ M5.out (a:=m) (by rw [seenB_len];exact hmN)
        rw [seenB_get hmN] at b0
        obtain ⟨sb,hsb⟩:∃ sb,decide ((m:Int) ∈ (eTo ws i++eL f l k).map (·.2))=sb:=⟨_,rfl⟩
        rw [hsb] at b0
        have HSB:=hd_ hsb
        have f0:=Blk.free M5.out m
        clear hsb hee
        cases sb with
        | true =>
         have hz:=hd_ (HNK.out (fun h=>h.2 (of_decide_eq_true HSB.out)))
         go_wp2_with fail
         go_ret
         exact ⟨by rw [hz.out];rfl,HQ.out _ (HC9.out _ C5.out)⟩
        | false =>
         go_wp2_with fail
         go_roundw
         case rel=>exact ⟨k+1,by omega,by go_num,by have h:=BitsB.set M5.out m true;rw [seenB_put] at h;rw [HNXK.out,<- List.append_assoc,List.map_append];exact h,C5.out.setSame _,hd_ (by rw [HNXK.out,<- List.append_assoc];exact OkE.next HO.out ⟨HE0.out,by rw [HKK.out];exact HFT.out⟩ (of_decide_eq_false HSB.out))⟩
         case measure=>simp [intOf];omega
       ·have hz:=hd_ (HNK.out (fun h=>by have h1:=h.1.1;rw [hee] at h1;cases h1))
        rw [hee]
        clear hee
        go_wp2_with fail
        go_ret
        exact ⟨by rw [hz.out];rfl,HQ.out _ (HC9.out _ C5.out)⟩
      case neg =>
       have h2:(kk==2)=false:=by rw [beq_eq_false_iff_ne];exact c2
       have HFT:=hd_ (show ¬ (kk=eK k∨kk=3) from by unfold eK;rw [if_neg ck];exact fun h=>h.elim c2 c3)
       clear HCL c3 ck c2
       rcases HEE.out with hee|hee
       ·have HE0:=hd_ hee
        rw [hee]
        have hz:=hd_ (HNK.out (fun h=>HFT.out (by rw [<- HKK.out];exact h.1.2)))
        clear hee
        go_wp2_with fail
        go_ret
        exact ⟨by rw [hz.out];rfl,HQ.out _ (HC9.out _ C5.out)⟩
       ·have hz:=hd_ (HNK.out (fun h=>by have h1:=h.1.1;rw [hee] at h1;cases h1))
        rw [hee]
        clear hee
        go_wp2_with fail
        go_ret
        exact ⟨by rw [hz.out];rfl,HQ.out _ (HC9.out _ C5.out)⟩
end Go.Proofs.YtmkiphadkmodnaaGreat
