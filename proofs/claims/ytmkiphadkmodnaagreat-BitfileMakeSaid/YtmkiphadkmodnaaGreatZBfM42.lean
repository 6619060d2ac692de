/- BfM, 42 -/
import Derived.Test.YtmkiphadkmodnaaGreatZBfM41
import Derived.Test.YtmkiphadkmodnaaGreatZBfM0
import Derived.Test.YtmkiphadkmodnaaGreatZBfM6
import Derived.Test.YtmkiphadkmodnaaGreatZBfM12
import Derived.Test.YtmkiphadkmodnaaGreatZBfM11
set_option linter.all false
set_option maxRecDepth 100000
set_option maxHeartbeats 8000000
namespace Go.Proofs.YtmkiphadkmodnaaGreat
open Go.RowKit Go.Maps
abbrev oGr0:Oper:=⟨some 71,.fieldAddr 125 (.tmp 3) 2,0,"ref.go:72",#[],none⟩
abbrev oGr1:Oper:=⟨some 72,.load 30 (.tmp 71),30,"ref.go:72",#[⟨0,.data⟩],none⟩
abbrev oGr2:Oper:=⟨some 73,.move (.tmp 13),3,"ref.go:72",#[],none⟩
abbrev oGr3:Oper:=⟨some 74,.fieldAddr 125 (.tmp 3) 2,0,"ref.go:72",#[],none⟩
abbrev oGr4:Oper:=⟨some 75,.load 30 (.tmp 74),30,"ref.go:72",#[⟨3,.data⟩],none⟩
abbrev oGr5:Oper:=⟨some 76,.move (.tmp 13),3,"ref.go:72",#[],none⟩
abbrev oGr6:Oper:=⟨some 77,.indexAddr 30 (.tmp 75) (.tmp 76),0,"ref.go:72",#[⟨4,.data⟩,⟨5,.data⟩],none⟩
abbrev oGr7:Oper:=⟨some 78,.load 25 (.tmp 77),25,"ref.go:72",#[⟨6,.data⟩],none⟩
abbrev oGr8:Oper:=⟨some 79,.move (.tmp 11),3,"ref.go:72",#[],none⟩
abbrev oGr9:Oper:=⟨some 80,.buildSlice 25 1 #[(0,.tmp 79)],25,"ref.go:72",#[⟨8,.data⟩],none⟩
abbrev oGr10:Oper:=⟨some 81,.call { callee:=.builtin Builtin.append,args:=#[.tmp 78,.tmp 80],argTypes:=#[25,25] },25,"ref.go:72",#[⟨7,.data⟩,⟨9,.data⟩],none⟩
abbrev oGr11:Oper:=⟨some 82,.indexAddr 30 (.tmp 72) (.tmp 73),0,"ref.go:72",#[⟨1,.data⟩,⟨2,.data⟩,⟨0,.phase⟩,⟨1,.phase⟩,⟨2,.phase⟩,⟨3,.phase⟩,⟨4,.phase⟩,⟨5,.phase⟩,⟨6,.phase⟩,⟨7,.phase⟩,⟨8,.phase⟩,⟨9,.phase⟩,⟨10,.phase⟩],none⟩
abbrev oGr12:Oper:=⟨none,.store 25 (.tmp 82) (.tmp 81),0,"ref.go:72",#[⟨11,.data⟩,⟨10,.data⟩,⟨10,.chain⟩,⟨0,.phase⟩,⟨1,.phase⟩,⟨2,.phase⟩,⟨3,.phase⟩,⟨4,.phase⟩,⟨5,.phase⟩,⟨6,.phase⟩,⟨7,.phase⟩,⟨8,.phase⟩,⟨9,.phase⟩,⟨10,.phase⟩],none⟩
def trkB (W H T:Int) (n:Nat):Bool:=whK W H T (n:Int)==4||whK W H T (n:Int)==5
def trTo (W H T:Int) (i:Nat):List Bool:=(List.range i).map (trkB W H T)
theorem trTo_next (W H T:Int) (i:Nat):trTo W H T (i+1)=trTo W H T i++[trkB W H T i]:=by unfold trTo;rw [List.range_succ,List.map_append];rfl
theorem trTo_len (W H T:Int) (i:Nat):(trTo W H T i).length=i:=by unfold trTo;rw [List.length_map,List.length_range]
theorem nodes_pos {W H T:Int} (h:okA W H T):0<nodesI W H T:=by
 have h1:=gat_mono h
 have h2:gat W H T 1=0+gmany W H T 0:=rfl
 have h3:0<gmany W H T 0:=by
  have:gmany W H T 0=W*H:=by unfold gmany;simp [gw,gh,gd]
  rw [this];exact Int.mul_pos (by unfold okA at h;omega) (by unfold okA at h;omega)
 unfold nodesI
 omega
structure GrW (w4:World) (b2 i j:Nat) (tr:List Bool) (AT:Option Addr) (cT:Nat) (AA:Option Addr) (cA:Nat) (wx:World):Prop where
 blk:Blk wx b2 125 #[.slice AT i cT,.slice none 0 0,.slice AA j cA]
 trk:wx.ownsRow w4.heap.size 4 1 (.slice AT i cT) i (bools tr)
 att:wx.ownsRow w4.heap.size 25 1 (.slice AA j cA) j (List.replicate j (.slice none 0 0))
 chg:Chg w4 wx fun k=>k=b2
 lt:b2<w4.heap.size
section
variable {w4 wx wy w3 : World} {b2 i j : Nat} {tr : List Bool} {AT : Option Addr} {cT : Nat} {AA : Option Addr} {cA : Nat}
theorem GrW.keep (h:GrW w4 b2 i j tr AT cT AA cA wx) (hb:Below wx.heap.size wx wy):GrW w4 b2 i j tr AT cT AA cA wy:=⟨h.blk.keep hb,own_keep h.trk hb,own_keep h.att hb,h.chg.belowB hb,h.lt⟩
theorem GrW.push1 (h:GrW w4 b2 i j tr AT cT AA cA wx) {o:Obj} {A':Option Addr} {c':Nat} {b:Bool} (hown:w3.ownsRow w4.heap.size 4 1 (.slice A' (i+1) c') (i+1) (bools tr++[.bool b])) (hg:(wx.alloc o).grownBy w3 (blkOf AT)) :
  Blk w3 b2 125 #[.slice AT i cT,.slice none 0 0,.slice AA j cA]∧GrW w4 b2 (i+1) j (tr++[b]) A' c' AA cA (w3.setCell ⟨b2,0,none⟩ (.slice A' (i+1) c')):=by
 have h1:=h.keep (bn_ wx o)
 have hlt:=h.lt
 have hX:=h1.blk.grown hg (fun e=>by have:=own_base h1.trk (by rw [own_blk];exact e.symm);omega)
 have hat3:=own_grown h1.att h1.trk (by decide) (by rw [own_blk];exact hg)
 have hC:=Chg.set w3 b2 0 (.slice A' (i+1) c')
 refine ⟨hX,?_,?_,?_,?_,hlt⟩
 ·have:=hX.put 0 (.slice A' (i+1) c');simpa using this
 ·have h2:=hC.own hown (fun g e hk=>by have:=own_base hown e;omega)
  rw [show bools (tr++[b])=bools tr++[.bool b] by simp [bools]]
  exact h2
 ·exact hC.own hat3 (fun g e hk=>by have:=own_base hat3 e;omega)
 ·exact (h1.chg.grownHi hg (fun k hk=>own_base h1.trk (by rw [own_blk];exact hk))).setSame _
theorem GrW.push2 (h:GrW w4 b2 i j tr AT cT AA cA wx) {o:Obj} {A':Option Addr} {c':Nat} (hown:w3.ownsRow w4.heap.size 25 1 (.slice A' (j+1) c') (j+1) (List.replicate j (.slice none 0 0)++[.slice none 0 0])) (hg:(wx.alloc o).grownBy w3 (blkOf AA)) :
  Blk w3 b2 125 #[.slice AT i cT,.slice none 0 0,.slice AA j cA]∧GrW w4 b2 i (j+1) tr AT cT A' c' (w3.setCell ⟨b2,2,none⟩ (.slice A' (j+1) c')):=by
 have h1:=h.keep (bn_ wx o)
 have hlt:=h.lt
 have hX:=h1.blk.grown hg (fun e=>by have:=own_base h1.att (by rw [own_blk];exact e.symm);omega)
 have htr3:=own_grown h1.trk h1.att (by decide) (by rw [own_blk];exact hg)
 have hC:=Chg.set w3 b2 2 (.slice A' (j+1) c')
 refine ⟨hX,?_,?_,?_,?_,hlt⟩
 ·have:=hX.put 2 (.slice A' (j+1) c');simpa using this
 ·exact hC.own htr3 (fun g e hk=>by have:=own_base htr3 e;omega)
 ·have h2:=hC.own hown (fun g e hk=>by have:=own_base hown e;omega)
  rw [List.replicate_succ']
  exact h2
 ·exact (h1.chg.grownHi hg (fun k hk=>own_base h1.att (by rw [own_blk];exact hk))).setSame _
end
def evR (es:List (Int × Int)) (i:Nat):List (Nat × List Value):=(List.range i).flatMap fun (k:Nat)=>[((edge es (k:Int)).1.toNat,[Value.int .i64 (k:Int)]),((edge es (k:Int)).2.toNat,[Value.int .i64 (k:Int)])]
theorem evR_next {es:List (Int × Int)} {i a b:Nat} (h:edge es (i:Int)=((a:Int),(b:Int))):evR es (i+1)=evR es i++[(a,[Value.int .i64 (i:Int)]),(b,[Value.int .i64 (i:Int)])]:=by
 unfold evR
 rw [List.range_succ,List.flatMap_append]
 simp [h]
theorem evR_len (es:List (Int × Int)) (i:Nat):(evR es i).length=2*i:=by
 induction i with
 | zero=>rfl
 | succ i ih =>
  unfold evR at ih ⊢
  rw [List.range_succ,List.flatMap_append,List.length_append,ih]
  simp
  omega
theorem evR_one (es:List (Int × Int)) (i:Nat):∀ e ∈ evR es i,e.2.length=1:=by
 intro e he
 unfold evR at he
 obtain ⟨k,-,hk⟩:=List.mem_flatMap.1 he
 rcases List.mem_cons.1 hk with rfl|hk
 ·rfl
 ·rw [List.mem_singleton] at hk;subst hk;rfl
def RGridOut (W H T : Int) (w : World) (e : Ending) (w' : World) : Prop :=
  ∃ (AT AE : Option Addr) (cT cE : Nat) (vA : Value) (N : Nat), e = .returned (.agg #[.slice AT N cT, .slice AE (edgesL W H T).length cE, vA]) ∧ Below w.heap.size w w' ∧ GridIn w' N (edgesL W H T).length cT cE AT AE (trTo W H T N) (edgesL W H T) ∧ nodesI W H T = (N : Int) ∧ vA.cells = #[vA] ∧
    ∃ (ga cA : Nat) (f : Nat → Nat) (rs : List RX), vA = .slice (some ⟨ga, 0, none⟩) N cA ∧ RowsW w.heap.size w.heap.size 25 3 1 f ga N cA rs w' ∧ RowsAt rs (evR (edgesL W H T) (edgesL W H T).length)
theorem rows_infoA:(Tryz.prog.info? 25).map (fun i=>(i.zero,i.size,i.bytes))=some (some (.slice none 0 0),1,24):=by kernel_rfl
theorem rgridOf_any (W H T:Int) (w:World) (hok:okA W H T) :
  Calls Tryz.prog 85 #[.agg #[.int .i64 W,.int .i64 H,.int .i64 T]] w (RGridOut W H T w):=by
 obtain ⟨RR,hRR⟩:∃ RR,RGridOut W H T w=RR:=⟨_,rfl⟩
 rw [hRR]
 unfold RGridOut at hRR
 have HRR:=hd_ hRR
 have HOKA:=hd_ hok
 have hno:nodesO W H T=nodesI W H T:=if_pos hok
 have hnb:=nodes_bd hok
 have HC:=hd_ (rnodes_any W H T)
 rw [hno] at HC
 obtain ⟨N,hN⟩:∃ N:Nat,nodesI W H T=(N:Int):=⟨(nodesI W H T).toNat,by omega⟩
 have HNE:=hd_ hN
 rw [hN] at HC hnb
 have HNP:=hd_ (show 0<(N:Int) by rw [<- hN];exact nodes_pos hok)
 clear hRR hok hno hN
 have Q0:=hd_ (bt_ (bt_ (bn_ w (.cells #[.int .i64 W,.int .i64 H,.int .i64 T] 23)) (bn_ _ (.cells #[.slice none 0 0,.slice none 0 0,.slice none 0 0] 125))) (bn_ _ (.cells #[.slice none 0 0,.slice none 0 0,.slice none 0 0] 125)))
 have X0:=hd_ (((Blk.made w 23 #[.int .i64 W,.int .i64 H,.int .i64 T]).alloc (.cells #[.slice none 0 0,.slice none 0 0,.slice none 0 0] 125)).alloc (.cells #[.slice none 0 0,.slice none 0 0,.slice none 0 0] 125))
 have X1:=hd_ (show Blk (((w.alloc (.cells #[.int .i64 W,.int .i64 H,.int .i64 T] 23)).alloc (.cells #[.slice none 0 0,.slice none 0 0,.slice none 0 0] 125)).alloc (.cells #[.slice none 0 0,.slice none 0 0,.slice none 0 0] 125)) (w.heap.size+1) 125 #[.slice none 0 0,.slice none 0 0,.slice none 0 0] from (blk_made1 w _ _ _).alloc _)
 have X2:=hd_ (show Blk (((w.alloc (.cells #[.int .i64 W,.int .i64 H,.int .i64 T] 23)).alloc (.cells #[.slice none 0 0,.slice none 0 0,.slice none 0 0] 125)).alloc (.cells #[.slice none 0 0,.slice none 0 0,.slice none 0 0] 125)) (w.heap.size+1+1) 125 #[.slice none 0 0,.slice none 0 0,.slice none 0 0] from by
  have h:=blk_made1 (w.alloc (.cells #[.int .i64 W,.int .i64 H,.int .i64 T] 23)) (.cells #[.slice none 0 0,.slice none 0 0,.slice none 0 0] 125) 125 #[.slice none 0 0,.slice none 0 0,.slice none 0 0]
  rw [World.size_alloc] at h
  exact h)
 go_enter Tryz.func85,Tryz.ntmps85
 go_upto_region 2 with (fail)
 generalize ((w.alloc (.cells #[.int .i64 W,.int .i64 H,.int .i64 T] 23)).alloc (.cells #[.slice none 0 0,.slice none 0 0,.slice none 0 0] 125)).alloc (.cells #[.slice none 0 0,.slice none 0 0,.slice none 0 0] 125)=w1 at Q0 X0 X1 X2 ⊢
 generalize hb2:w.heap.size+1+1=b2 at X2 ⊢
 generalize hb1:w.heap.size+1=b1 at X1 ⊢
 have hl1:w.heap.size<b1:=by omega
 have hl2:b1<b2:=by omega
 clear hb1 hb2
 have a0:=X0.out.cell 0
 have a1:=X0.out.cell 1
 have a2:=X0.out.cell 2
 go_wp2_with fail
 refine (HC.out _).mono ?_
 rintro e w4 ⟨rfl,hb⟩
 have Q4:=hd_ (bt_ Q0.out hb)
 have X4:=hd_ (X0.out.keep hb)
 have Y4:=hd_ (X1.out.keep hb)
 have G4:=hd_ (show GrW w4 b2 0 0 [] none 0 none 0 w4 from ⟨X2.out.keep hb,World.ownsRow_nil _ _ _ _,World.ownsRow_nil _ _ _ _,Chg.refl _ _,(X2.out.keep hb).lt⟩)
 clear a0 a1 a2 hb Q0 X0 X1 X2
 have hl4:b2<w4.heap.size:=G4.out.lt
 have HX:=hd_ (show ∀ W':World,Chg w4 W' (fun k=>k=b2)->Blk W' w.heap.size 23 #[.int .i64 W,.int .i64 H,.int .i64 T] from fun W' hW=>hW.blk X4.out (by omega))
 have HY:=hd_ (show ∀ W':World,Chg w4 W' (fun k=>k=b2)->Blk W' b1 125 #[.slice none 0 0,.slice none 0 0,.slice none 0 0] from fun W' hW=>hW.blk Y4.out (by omega))
 have HQ:=hd_ (show ∀ W':World,Chg w4 W' (fun k=>k=b2)->Below w.heap.size w W' from fun W' hW=>hW.below Q4.out Q4.out.size (fun k hk=>by omega))
 clear Q4 X4 Y4
 go_wp2_with fail
 go_loopw [5] (fun v5 wx=>∃ (i:Nat) (AT:Option Addr) (cT:Nat) (AA:Option Addr) (cA:Nat),i<=N∧v5=.int .i64 (i:Int)∧GrW w4 b2 i i (trTo W H T i) AT cT AA cA wx) (fun v5 _=>N-(intOf v5).toNat)
 case atStart=>exact ⟨0,none,0,none,0,by omega,rfl,G4.out⟩
 case round =>
  clear G4
  obtain ⟨i,AT,cT,AA,cA,hi,rfl,hgr⟩:=hrel
  have GG:=hd_ hgr
  clear hgr
  by_cases hin:i<N
  case neg =>
   obtain rfl:N=i:=by omega
   have hlt:¬ (N:Int)<(N:Int):=by omega
   go_upto_region 9 with (fail)
   have XX:=hd_ (HX.out _ GG.out.chg)
   have a0:=XX.out.cell 0
   have a1:=XX.out.cell 1
   have a2:=XX.out.cell 2
   have HE:=hd_ (redges_yes W H T wr HOKA.out)
   have HIN:=hd_ (show ∀ e ∈ edgesL W H T,(0<=e.1∧e.1<(N:Int))∧0<=e.2∧e.2<(N:Int) from fun e he=>by
    have h:=edges_nodes HOKA.out he
    rw [<- HNE.out]
    exact ⟨h.1.2,h.2.2⟩)
   have hlen:(edgesL W H T).length<=6000000:=by have:=rawL_len HOKA.out;unfold edgesL;rw [sortP_length];exact this
   go_wp2_with fail
   refine HE.out.mono ?_
   rintro e w5 ⟨v,rfl,hb5,how5⟩
   clear HE
   generalize edgesL W H T=es at HIN hlen how5 HRR
   obtain ⟨ne,hne⟩:∃ ne,es.length=ne:=⟨_,rfl⟩
   have HES:=hd_ hne
   rw [hne] at how5 hlen
   obtain ⟨AE,cE,rfl⟩:=own_slice how5
   have G5:=hd_ (GG.out.keep hb5)
   have hl5:w4.heap.size<=wr.heap.size:=GG.out.chg.size
   have OE:=hd_ (own_down how5 hl5)
   clear a0 a1 a2 XX GG hb5 how5 hne
   have x1:=G5.out.blk.cell 1
   have f1:=G5.out.blk.free 1
   go_upto_region 10 with (fail)
   clear x1 f1
   have hC5:=Chg.set w5 b2 1 (.slice AE ne cE)
   have B6:=hd_ (show Blk (w5.setCell ⟨b2,1,none⟩ (.slice AE ne cE)) b2 125 #[.slice AT N cT,.slice AE ne cE,.slice AA N cA] from by have:=G5.out.blk.put 1 (.slice AE ne cE);simpa using this)
   have TR6:=hd_ (hC5.own G5.out.trk (fun g e hk=>by have:=own_base G5.out.trk e;omega))
   have AT6:=hd_ (hC5.own G5.out.att (fun g e hk=>by have:=own_base G5.out.att e;omega))
   have OE6:=hd_ (hC5.own OE.out (fun g e hk=>by have:=own_base OE.out e;omega))
   have C6:=hd_ (G5.out.chg.setSame (i:=1) (.slice AE ne cE))
   clear hC5 OE G5
   generalize w5.setCell ⟨b2,1,none⟩ (.slice AE ne cE)=w6 at B6 TR6 AT6 OE6 C6 ⊢
   have hNp:0<N:=by have:=HNP.out;omega
   obtain ⟨ga,cA',hAA⟩:∃ ga cA',Value.slice AA N cA=.slice (some ⟨ga,0,none⟩) N cA':=by
    rcases AT6.out.2 with ⟨h',-⟩|⟨g',cap',cur,h',-⟩
    ·simp at h';omega
    ·exact ⟨g',cap',h'⟩
   have hcA:cA=cA':=by injection hAA
   subst hcA
   have hAA2:AA=some ⟨ga,0,none⟩:=by injection hAA
   subst hAA2
   clear hAA
   have hga:=AT6.out.lt ga rfl
   have hs6:=C6.out.size
   have R6:=hd_ (show RowsW w4.heap.size w6.heap.size 25 3 1 (fun _=>0) ga N cA (List.replicate N ⟨none,0,0,[]⟩) w6 from RowsW.start AT6.out)
   have HB2:=hd_ (show ∀ W':World,Chg w6 W' (fun k=>k=ga)->Blk W' b2 125 #[.slice AT N cT,.slice AE ne cE,.slice (some ⟨ga,0,none⟩) N cA] from fun W' hW=>hW.blk B6.out (by omega))
   have HTR:=hd_ (show ∀ W':World,Chg w6 W' (fun k=>k=ga)->Rd W' 1 AT N cT (bools (trTo W H T N)) from fun W' hW=>(Rd.of_own TR6.out).chg hW (fun g hg hk=>by
    obtain ⟨cs,hb⟩:=R6.out.blk
    exact own_other TR6.out hb (by decide) (by rw [own_blk,hg,hk])))
   have HED:=hd_ (show ∀ W':World,Chg w6 W' (fun k=>k=ga)->Rd W' 2 AE ne cE (pc es) from fun W' hW=>(Rd.of_own OE6.out).chg hW (fun g hg hk=>by
    obtain ⟨cs,hb⟩:=R6.out.blk
    exact own_other OE6.out hb (by decide) (by rw [own_blk,hg,hk])))
   have HY6:=hd_ (show ∀ W':World,Chg w6 W' (fun k=>k=ga)->Blk W' b1 125 #[.slice none 0 0,.slice none 0 0,.slice none 0 0] from fun W' hW=>hW.blk (HY.out _ C6.out) (by omega))
   have HQ6:=hd_ (show ∀ W':World,Chg w6 W' (fun k=>k=ga)->Below w.heap.size w W' from fun W' hW=>hW.below (HQ.out _ C6.out) (HQ.out _ C6.out).size (fun k hk=>by omega))
   have HLT:=hd_ (show ∀ g,blkOf AT=some g->w4.heap.size<=g from fun g e=>own_base TR6.out (by rw [own_blk];exact e))
   have HLE:=hd_ (show ∀ g,blkOf AE=some g->w4.heap.size<=g from fun g e=>own_base OE6.out (by rw [own_blk];exact e))
   clear TR6 AT6 OE6 B6
   go_wp2_with fail
   go_loopw [11] (fun v11 wx=>∃ (i:Nat) (f:Nat->Nat) (rs:List RX),i<=ne∧v11=.int .i64 (i:Int)∧RowsW w4.heap.size w6.heap.size 25 3 1 f ga N cA rs wx∧Chg w6 wx (fun k=>k=ga)∧Hid (RowsAt rs (evR es i))) (fun v11 _=>ne-(intOf v11).toNat)
   case atStart=>exact ⟨0,_,_,by omega,rfl,R6.out,Chg.refl _ _,hd_ (RowsAt.start N)⟩
   case round =>
    clear R6
    obtain ⟨i,f,rs,hi,rfl,hR,hc,HRA⟩:=hrel
    have RR1:=hd_ hR
    have CC:=hd_ hc
    clear hR hc
    have x1:=(HB2.out _ CC.out).cell 1
    by_cases hin:i<ne
    case neg =>
     obtain rfl:ne=i:=by omega
     have hlt:¬ (ne:Int)<(ne:Int):=by omega
     have x0:=(HB2.out _ CC.out).cell 0
     have x2:=(HB2.out _ CC.out).cell 2
     have y0:=(HY6.out _ CC.out).cell 0
     have y1:=(HY6.out _ CC.out).cell 1
     have y2:=(HY6.out _ CC.out).cell 2
     have z0:=(HY6.out _ CC.out).free 0
     have z1:=(HY6.out _ CC.out).free 1
     have z2:=(HY6.out _ CC.out).free 2
     have hci:(Tryz.prog.info? 125).map (·.size)=some 3:=by kernel_rfl
     go_wp2_with fail
     have hb1g:b1≠ga:=by omega
     have hY:=HY6.out _ CC.out
     have hS:=((Chg.set wr b1 0 (.slice AT N cT)).setSame (i:=1) (.slice AE ne cE)).setSame (i:=2) (.slice (some ⟨ga,0,none⟩) N cA)
     have R9:=((hY.put 0 (.slice AT N cT)).put 1 (.slice AE ne cE)).put 2 (.slice (some ⟨ga,0,none⟩) N cA)
     refine bodyPost_ret (v:=.agg #[.slice AT N cT,.slice AE ne cE,.slice (some ⟨ga,0,none⟩) N cA]) ?_ rfl ?_
     ·exact results_cell_row rfl _ _ b1 125 _ (0,0) _ rfl R9 Tryz.underlying125 rfl hci
     ·rw [<- HRR.out]
      have hbe:=hS.below (HQ6.out _ CC.out) (HQ6.out _ CC.out).size (fun k hk=>by omega)
      have h1:∀ {sz n c:Nat} {A:Option Addr} {xs:List Value},Rd wr sz A n c xs->(∀ g,blkOf A=some g->w4.heap.size<=g)->Rd ((((wr.setCell ⟨b1,0,none⟩ (.slice AT N cT))).setCell ⟨b1,1,none⟩ (.slice AE ne cE)).setCell ⟨b1,2,none⟩ (.slice (some ⟨ga,0,none⟩) N cA)) sz A n c xs:=fun hr hg=>hr.chg hS (fun g e hk=>by have:=hg g e;omega)
      refine ⟨AT,AE,cT,cE,.slice (some ⟨ga,0,none⟩) N cA,N,by rw [HES.out],hbe,?_,HNE.out,rfl,ga,cA,f,rs,rfl,(RR1.out.chg hS (fun g h e=>by omega) (fun g h e=>by omega)).down (by omega) (by omega),by rw [HES.out];exact HRA.out⟩
      exact ⟨h1 (HTR.out _ CC.out) (fun g e=>HLT.out g e),by rw [HES.out];exact h1 (HED.out _ CC.out) (fun g e=>HLE.out g e),HIN.out,by omega,by rw [HES.out];omega⟩
    have hin':(i:Int)<(ne:Int):=by omega
    obtain ⟨a,b,m,hed,ha,hb,hsm,hme⟩:=edge_in HIN.out (s:=(i:Int)) (by omega) (by rw [HES.out];exact hin')
    obtain rfl:i=m:=by omega
    have hp2:=pc_two es hme
    rw [hed] at hp2
    have HEV:=hd_ (evR_next (i:=i) hed)
    obtain ⟨pe,hpe,-,s0,s1⟩:=(HED.out _ CC.out).two hp2.1 hp2.2
    have HEC:=hd_ (show ∀ W':World,Chg w6 W' (fun k=>k=ga)->∃ p,AE=some p∧W'.cell? (p.add (i*2))=some (.int .i64 (a:Int))∧W'.cell? ⟨(p.add (i*2)).block,(p.add (i*2)).off+1,none⟩=some (.int .i64 (b:Int)) from fun W' hW=>by
     obtain ⟨p,h1,-,h2,h3⟩:=(HED.out _ hW).two hp2.1 hp2.2
     exact ⟨p,h1,h2,h3⟩)
    clear hp2 hed hsm hme hpe s0 s1
    obtain ⟨L,hL⟩:∃ L,evR es i=L:=⟨_,rfl⟩
    rw [hL] at HRA HEV
    have HLL:=hd_ (show L.length<=12000000 from by rw [<- hL];have:=evR_len es i;omega)
    have HL1:=hd_ (show ∀ e ∈ L,e.2.length=1 from by rw [<- hL];exact evR_one es i)
    clear hL
    go_wp2_with fail
    clear x1
    go_loopw [12] (fun v12 wx=>∃ (j:Nat) (f:Nat->Nat) (rs:List RX),j<=2∧v12=.int .i64 (j:Int)∧RowsW w4.heap.size w6.heap.size 25 3 1 f ga N cA rs wx∧Chg w6 wx (fun k=>k=ga)∧Hid (RowsAt rs (L++List.take j [(a,[Value.int .i64 (i:Int)]),(b,[Value.int .i64 (i:Int)])]))) (fun v12 _=>2-(intOf v12).toNat)
    case atStart=>exact ⟨0,f,rs,by omega,rfl,RR1.out,CC.out,by simpa using HRA⟩
    case round =>
     clear RR1 CC HRA
     obtain ⟨j,f,rs,hj,rfl,hR,hc,HRA⟩:=hrel
     have R1:=hd_ hR
     have C1:=hd_ hc
     clear hR hc
     obtain rfl|rfl|rfl:j=0∨j=1∨j=2:=by omega
     ·have HRA:=hd_ (show RowsAt rs L from by have h:=HRA.out;simpa using h)
      have hxN:a<N:=ha
      have hxN':(a:Int)<(N:Int):=by omega
      obtain ⟨xx,hxx⟩:∃ xx,rs[a]? = some xx:=⟨_,List.getElem?_eq_getElem (by rw [R1.out.len];exact hxN)⟩
      obtain ⟨xA,xc,xn,xxs⟩:=xx
      have HXX:=hd_ hxx
      have hxn:xn<=13000000:=by
       have h1:=(R1.out.rows _ _ hxx).1.1
       have h2:=HRA.out _ _ hxx
       have h3:=evAt_len (ev:=L) (sz:=1) (fun e he=>by exact HL1.out e he) a
       simp only at h1 h2
       rw [h2] at h1
       have h4:=HLL.out
       simp at h3
       omega
      have g2:=R1.out.cell hxx
      have x1:=(HB2.out _ C1.out).cell 1
      have x2:=(HB2.out _ C1.out).cell 2
      obtain ⟨pe,hpe,s0,s1⟩:=HEC.out _ C1.out
      rw [hpe] at x1
      simp only [RX.v] at g2
      have HSS:=hd_ (show ∀ W':World,Below wr.heap.size wr W'->(W'.cell? ⟨b2,2,none⟩=some (.slice (some ⟨ga,0,none⟩) N cA)∧W'.cell? ⟨ga,a,none⟩=some (.slice xA xn xc)) from fun W' hW=>⟨(hW.cell (World.block_lt_of_cell? wr _ x2)).trans x2,(hW.cell (World.block_lt_of_cell? wr _ g2)).trans g2⟩)
      clear hxx hpe
      go_upto_region 17 with (fail)
      clear x1 s0 s1 x2
      have g2d:=(HSS.out _ (bn_ wr (.cells #[.int .i64 (i:Int)] 3))).2
      have g2b:=(HSS.out _ (bt_ bd_ (bn_ wr.drew (.cells #[.int .i64 (i:Int)] 3)))).2
      refine wp_region_held_drew (S:=(fun w'=>w'.cell? ⟨b2,2,none⟩=some (.slice (some ⟨ga,0,none⟩) N cA))) (by kernel_rfl) ?_ (fun hh=>?_)
      ·(first|exact (HSS.out _ br_).1|exact (HSS.out _ bd_).1|exact (HSS.out _ (bt_ bd_ (bn_ _ _))).1|exact k1.out|exact k3.out)
      show wpAnyH _ _ _ _ _ _ #[false,false,false,false,false,false,false,false,false,false,false,false,false] _ _
      refine' stage1 (M:=fun (wx:World)=>(fun wx=>wx=wr.drew.alloc (.cells #[.int .i64 (i:Int)] 3)) wx) (fun h7_9=>?main) ?p7_9
      case main =>
       refine tk_ 0 oGr0 (v:=?_) ?_ ?_
       rotate_left
       ·intro w hSw;(try dsimp only at hSw);go_simp;(try with_reducible rfl)
       try simp only [Act.put,la_,lz_,ls_]
       refine tk_ 1 oGr1 (v:=?_) ?_ ?_
       rotate_left
       ·intro w hSw;(try dsimp only at hSw);go_simp;(try with_reducible rfl)
       try simp only [Act.put,la_,lz_,ls_]
       refine tk_ 2 oGr2 (v:=?_) ?_ ?_
       rotate_left
       ·intro w hSw;(try dsimp only at hSw);go_simp;(try with_reducible rfl)
       try simp only [Act.put,la_,lz_,ls_]
       refine tk_ 3 oGr3 (v:=?_) ?_ ?_
       rotate_left
       ·intro w hSw;(try dsimp only at hSw);go_simp;(try with_reducible rfl)
       try simp only [Act.put,la_,lz_,ls_]
       refine tk_ 4 oGr4 (v:=?_) ?_ ?_
       rotate_left
       ·intro w hSw;(try dsimp only at hSw);go_simp;(try with_reducible rfl)
       try simp only [Act.put,la_,lz_,ls_]
       refine tk_ 5 oGr5 (v:=?_) ?_ ?_
       rotate_left
       ·intro w hSw;(try dsimp only at hSw);go_simp;(try with_reducible rfl)
       try simp only [Act.put,la_,lz_,ls_]
       refine tk_ 6 oGr6 (v:=?_) ?_ ?_
       rotate_left
       ·intro w hSw;(try dsimp only at hSw);go_simp;(try with_reducible rfl)
       try simp only [Act.put,la_,lz_,ls_]
       refine tk_ 8 oGr8 (v:=?_) ?_ ?_
       rotate_left
       ·intro w hSw;(try dsimp only at hSw);go_simp;(try with_reducible rfl)
       try simp only [Act.put,la_,lz_,ls_]
       refine rd_ [7,9] ?_
       refine AllReadyH.cons (o:=oGr7) rfl (fun K hK=>?_) ?_
       ·skip
        go_simp
        refine hK.out _ _ ?_ (fun hh=>?_)
        ·(first|exact (HSS.out _ br_).1|exact (HSS.out _ bd_).1|exact (HSS.out _ (bt_ bd_ (bn_ _ _))).1|exact k1.out|exact k3.out)
        clear hK K
        try simp only [Act.put,la_,lz_,ls_]
        refine rd_ [9] ?_
        refine AllReadyH.cons (o:=oGr9) rfl (fun K hK=>?_) ?_
        ·clear hh
         go_simp
         refine hK.out _ _ ?_ (fun hh=>?_)
         ·(first|exact (HSS.out _ br_).1|exact (HSS.out _ bd_).1|exact (HSS.out _ (bt_ bd_ (bn_ _ _))).1|exact k1.out|exact k3.out)
         clear hK K
         try simp only [Act.put,la_,lz_,ls_]
         exact h7_9 _ rfl
        exact AllReadyH.nil
       refine AllReadyH.cons (o:=oGr9) rfl (fun K hK=>?_) ?_
       ·skip
        go_simp
        refine hK.out _ _ ?_ (fun hh=>?_)
        ·(first|exact (HSS.out _ br_).1|exact (HSS.out _ bd_).1|exact (HSS.out _ (bt_ bd_ (bn_ _ _))).1|exact k1.out|exact k3.out)
        clear hK K
        try simp only [Act.put,la_,lz_,ls_]
        refine rd_ [7] ?_
        refine AllReadyH.cons (o:=oGr7) rfl (fun K hK=>?_) ?_
        ·clear hh
         go_simp
         refine hK.out _ _ ?_ (fun hh=>?_)
         ·(first|exact (HSS.out _ br_).1|exact (HSS.out _ bd_).1|exact (HSS.out _ (bt_ bd_ (bn_ _ _))).1|exact k1.out|exact k3.out)
         clear hK K
         try simp only [Act.put,la_,lz_,ls_]
         exact h7_9 _ rfl
        exact AllReadyH.nil
       exact AllReadyH.nil
      case p7_9 =>
       intro wx hMK
       subst hMK
       have hh:=(HSS.out _ (bt_ bd_ (bn_ wr.drew (.cells #[.int .i64 (i:Int)] 3)))).1
       refine rd_ [10] ?_
       refine AllReadyH.cons (o:=oGr10) rfl (fun K hK=>?_) ?_
       ·clear hh
        have O8:=hd_ (Rd.of_own (World.ownsRow_lit (base:=wr.drew.heap.size) (e:=3) (size:=1) wr.drew #[.int .i64 (i:Int)] 1 (by simp) (by unfold maxLen;omega) rfl))
        obtain ⟨A9,k9,u9,hrun9,hown9,hgr9,hat9⟩:=app_runs 25 3 25 Tryz.underlying25 _ 1 8 int_infoA rfl (by decide) (by decide) w6.heap.size xA xn xc xxs ((R1.out.rows a _ HXX.out).1.drew.alloc _) ⟨wr.drew.heap.size,0,none⟩ 1 1 [.int .i64 (i:Int)] O8.out (by simp [Value.oneCell']) (by omega) (by have:=C1.out.size;simp;omega)
        refine step_app_run (by rfl) (.tmp 78) (.tmp 80) 25 25 (by rfl) (.slice xA xn xc) (.slice (some ⟨wr.heap.size,0,none⟩) 1 1) (by rfl) (by rfl) hrun9 ?_
        have k2:=hd_ (R1.out.drew.still (w3:=u9) (by decide) HXX.out hgr9).1
        have f2:=(R1.out.drew.still (w3:=u9) (by decide) HXX.out hgr9).2
        have C9:=hd_ ((C1.out.belowB (bt_ bd_ (bn_ wr.drew (.cells #[.int .i64 (i:Int)] 3)))).grownHi hgr9 (fun j hj=>own_base (R1.out.rows a _ HXX.out).1 (by unfold RX.v;rw [own_blk];exact hj)))
        have k1:=hd_ ((HB2.out _ C9.out).cell 2)
        have k3:=hd_ ((HB2.out _ (C9.out.setSame (i:=a) (.slice A9 (xn+1) k9))).cell 2)
        have k2':=k2.out
        have T9:=hd_ (R1.out.drew.turn (m:=1) (by decide) HXX.out hown9 hgr9 hat9)
        have U9:=hd_ (HRA.out.turn HXX.out A9 k9 (xn+1) [.int .i64 (i:Int)])
        clear hown9 hgr9 hat9 hrun9
        refine hK.out _ _ ?_ (fun hh=>?_)
        ·(first|exact (HSS.out _ br_).1|exact (HSS.out _ bd_).1|exact (HSS.out _ (bt_ bd_ (bn_ _ _))).1|exact k1.out|exact k3.out)
        clear hK K
        try simp only [Act.put,la_,lz_,ls_]
        refine tk_ 11 oGr11 (v:=?_) ?_ ?_
        rotate_left
        ·intro w hSw;(try dsimp only at hSw);go_simp;(try with_reducible rfl)
        try simp only [Act.put,la_,lz_,ls_]
        refine rd_ [12] ?_
        refine AllReadyH.cons (o:=oGr12) rfl (fun K hK=>?_) ?_
        ·clear hh
         go_simp
         refine hK.out _ _ ?_ (fun hh=>?_)
         ·(first|exact (HSS.out _ br_).1|exact (HSS.out _ bd_).1|exact (HSS.out _ (bt_ bd_ (bn_ _ _))).1|exact k1.out|exact k3.out)
         clear hK K
         try simp only [Act.put,la_,lz_,ls_]
         refine wpAnyH_done (by kernel_rfl) ?_ _
         clear k1 k2 f2 k3 k2' g2 g2b g2d
         go_wp2_with fail
         go_roundw
         case rel=>exact ⟨1,_,_,by omega,by go_num,T9.out,C9.out.setSame _,by have h:=U9.out;rw [show L++List.take 1 [(a,[Value.int .i64 (i:Int)]),(b,[Value.int .i64 (i:Int)])]=L++[(a,[Value.int .i64 (i:Int)])] from rfl];exact hd_ h⟩
         case measure=>simp [intOf]
        exact AllReadyH.nil
       exact AllReadyH.nil
     ·have HRA:=hd_ (show RowsAt rs (L++[(a,[Value.int .i64 (i:Int)])]) from by have h:=HRA.out;exact h)
      have hxN:b<N:=hb
      have hxN':(b:Int)<(N:Int):=by omega
      obtain ⟨xx,hxx⟩:∃ xx,rs[b]? = some xx:=⟨_,List.getElem?_eq_getElem (by rw [R1.out.len];exact hxN)⟩
      obtain ⟨xA,xc,xn,xxs⟩:=xx
      have HXX:=hd_ hxx
      have hxn:xn<=13000000:=by
       have h1:=(R1.out.rows _ _ hxx).1.1
       have h2:=HRA.out _ _ hxx
       have h3:=evAt_len (ev:=(L++[(a,[Value.int .i64 (i:Int)])])) (sz:=1) (fun e he=>by rcases List.mem_append.1 he with he|he;exact HL1.out e he;rw [List.mem_singleton] at he;rw [he];rfl) b
       simp only at h1 h2
       rw [h2] at h1
       have h4:=HLL.out
       simp at h3
       omega
      have g2:=R1.out.cell hxx
      have x1:=(HB2.out _ C1.out).cell 1
      have x2:=(HB2.out _ C1.out).cell 2
      obtain ⟨pe,hpe,s0,s1⟩:=HEC.out _ C1.out
      rw [hpe] at x1
      simp only [RX.v] at g2
      have HSS:=hd_ (show ∀ W':World,Below wr.heap.size wr W'->(W'.cell? ⟨b2,2,none⟩=some (.slice (some ⟨ga,0,none⟩) N cA)∧W'.cell? ⟨ga,b,none⟩=some (.slice xA xn xc)) from fun W' hW=>⟨(hW.cell (World.block_lt_of_cell? wr _ x2)).trans x2,(hW.cell (World.block_lt_of_cell? wr _ g2)).trans g2⟩)
      clear hxx hpe
      go_upto_region 17 with (fail)
      clear x1 s0 s1 x2
      have g2d:=(HSS.out _ (bn_ wr (.cells #[.int .i64 (i:Int)] 3))).2
      have g2b:=(HSS.out _ (bt_ bd_ (bn_ wr.drew (.cells #[.int .i64 (i:Int)] 3)))).2
      refine wp_region_held_drew (S:=(fun w'=>w'.cell? ⟨b2,2,none⟩=some (.slice (some ⟨ga,0,none⟩) N cA))) (by kernel_rfl) ?_ (fun hh=>?_)
      ·(first|exact (HSS.out _ br_).1|exact (HSS.out _ bd_).1|exact (HSS.out _ (bt_ bd_ (bn_ _ _))).1|exact k1.out|exact k3.out)
      show wpAnyH _ _ _ _ _ _ #[false,false,false,false,false,false,false,false,false,false,false,false,false] _ _
      refine' stage1 (M:=fun (wx:World)=>(fun wx=>wx=wr.drew.alloc (.cells #[.int .i64 (i:Int)] 3)) wx) (fun h7_9=>?main) ?p7_9
      case main =>
       refine tk_ 0 oGr0 (v:=?_) ?_ ?_
       rotate_left
       ·intro w hSw;(try dsimp only at hSw);go_simp;(try with_reducible rfl)
       try simp only [Act.put,la_,lz_,ls_]
       refine tk_ 1 oGr1 (v:=?_) ?_ ?_
       rotate_left
       ·intro w hSw;(try dsimp only at hSw);go_simp;(try with_reducible rfl)
       try simp only [Act.put,la_,lz_,ls_]
       refine tk_ 2 oGr2 (v:=?_) ?_ ?_
       rotate_left
       ·intro w hSw;(try dsimp only at hSw);go_simp;(try with_reducible rfl)
       try simp only [Act.put,la_,lz_,ls_]
       refine tk_ 3 oGr3 (v:=?_) ?_ ?_
       rotate_left
       ·intro w hSw;(try dsimp only at hSw);go_simp;(try with_reducible rfl)
       try simp only [Act.put,la_,lz_,ls_]
       refine tk_ 4 oGr4 (v:=?_) ?_ ?_
       rotate_left
       ·intro w hSw;(try dsimp only at hSw);go_simp;(try with_reducible rfl)
       try simp only [Act.put,la_,lz_,ls_]
       refine tk_ 5 oGr5 (v:=?_) ?_ ?_
       rotate_left
       ·intro w hSw;(try dsimp only at hSw);go_simp;(try with_reducible rfl)
       try simp only [Act.put,la_,lz_,ls_]
       refine tk_ 6 oGr6 (v:=?_) ?_ ?_
       rotate_left
       ·intro w hSw;(try dsimp only at hSw);go_simp;(try with_reducible rfl)
       try simp only [Act.put,la_,lz_,ls_]
       refine tk_ 8 oGr8 (v:=?_) ?_ ?_
       rotate_left
       ·intro w hSw;(try dsimp only at hSw);go_simp;(try with_reducible rfl)
       try simp only [Act.put,la_,lz_,ls_]
       refine rd_ [7,9] ?_
       refine AllReadyH.cons (o:=oGr7) rfl (fun K hK=>?_) ?_
       ·skip
        go_simp
        refine hK.out _ _ ?_ (fun hh=>?_)
        ·(first|exact (HSS.out _ br_).1|exact (HSS.out _ bd_).1|exact (HSS.out _ (bt_ bd_ (bn_ _ _))).1|exact k1.out|exact k3.out)
        clear hK K
        try simp only [Act.put,la_,lz_,ls_]
        refine rd_ [9] ?_
        refine AllReadyH.cons (o:=oGr9) rfl (fun K hK=>?_) ?_
        ·clear hh
         go_simp
         refine hK.out _ _ ?_ (fun hh=>?_)
         ·(first|exact (HSS.out _ br_).1|exact (HSS.out _ bd_).1|exact (HSS.out _ (bt_ bd_ (bn_ _ _))).1|exact k1.out|exact k3.out)
         clear hK K
         try simp only [Act.put,la_,lz_,ls_]
         exact h7_9 _ rfl
        exact AllReadyH.nil
       refine AllReadyH.cons (o:=oGr9) rfl (fun K hK=>?_) ?_
       ·skip
        go_simp
        refine hK.out _ _ ?_ (fun hh=>?_)
        ·(first|exact (HSS.out _ br_).1|exact (HSS.out _ bd_).1|exact (HSS.out _ (bt_ bd_ (bn_ _ _))).1|exact k1.out|exact k3.out)
        clear hK K
        try simp only [Act.put,la_,lz_,ls_]
        refine rd_ [7] ?_
        refine AllReadyH.cons (o:=oGr7) rfl (fun K hK=>?_) ?_
        ·clear hh
         go_simp
         refine hK.out _ _ ?_ (fun hh=>?_)
         ·(first|exact (HSS.out _ br_).1|exact (HSS.out _ bd_).1|exact (HSS.out _ (bt_ bd_ (bn_ _ _))).1|exact k1.out|exact k3.out)
         clear hK K
         try simp only [Act.put,la_,lz_,ls_]
         exact h7_9 _ rfl
        exact AllReadyH.nil
       exact AllReadyH.nil
      case p7_9 =>
       intro wx hMK
       subst hMK
       have hh:=(HSS.out _ (bt_ bd_ (bn_ wr.drew (.cells #[.int .i64 (i:Int)] 3)))).1
       refine rd_ [10] ?_
       refine AllReadyH.cons (o:=oGr10) rfl (fun K hK=>?_) ?_
       ·clear hh
        have O8:=hd_ (Rd.of_own (World.ownsRow_lit (base:=wr.drew.heap.size) (e:=3) (size:=1) wr.drew #[.int .i64 (i:Int)] 1 (by simp) (by unfold maxLen;omega) rfl))
        obtain ⟨A9,k9,u9,hrun9,hown9,hgr9,hat9⟩:=app_runs 25 3 25 Tryz.underlying25 _ 1 8 int_infoA rfl (by decide) (by decide) w6.heap.size xA xn xc xxs ((R1.out.rows b _ HXX.out).1.drew.alloc _) ⟨wr.drew.heap.size,0,none⟩ 1 1 [.int .i64 (i:Int)] O8.out (by simp [Value.oneCell']) (by omega) (by have:=C1.out.size;simp;omega)
        refine step_app_run (by rfl) (.tmp 78) (.tmp 80) 25 25 (by rfl) (.slice xA xn xc) (.slice (some ⟨wr.heap.size,0,none⟩) 1 1) (by rfl) (by rfl) hrun9 ?_
        have k2:=hd_ (R1.out.drew.still (w3:=u9) (by decide) HXX.out hgr9).1
        have f2:=(R1.out.drew.still (w3:=u9) (by decide) HXX.out hgr9).2
        have C9:=hd_ ((C1.out.belowB (bt_ bd_ (bn_ wr.drew (.cells #[.int .i64 (i:Int)] 3)))).grownHi hgr9 (fun j hj=>own_base (R1.out.rows b _ HXX.out).1 (by unfold RX.v;rw [own_blk];exact hj)))
        have k1:=hd_ ((HB2.out _ C9.out).cell 2)
        have k3:=hd_ ((HB2.out _ (C9.out.setSame (i:=b) (.slice A9 (xn+1) k9))).cell 2)
        have k2':=k2.out
        have T9:=hd_ (R1.out.drew.turn (m:=1) (by decide) HXX.out hown9 hgr9 hat9)
        have U9:=hd_ (HRA.out.turn HXX.out A9 k9 (xn+1) [.int .i64 (i:Int)])
        clear hown9 hgr9 hat9 hrun9
        refine hK.out _ _ ?_ (fun hh=>?_)
        ·(first|exact (HSS.out _ br_).1|exact (HSS.out _ bd_).1|exact (HSS.out _ (bt_ bd_ (bn_ _ _))).1|exact k1.out|exact k3.out)
        clear hK K
        try simp only [Act.put,la_,lz_,ls_]
        refine tk_ 11 oGr11 (v:=?_) ?_ ?_
        rotate_left
        ·intro w hSw;(try dsimp only at hSw);go_simp;(try with_reducible rfl)
        try simp only [Act.put,la_,lz_,ls_]
        refine rd_ [12] ?_
        refine AllReadyH.cons (o:=oGr12) rfl (fun K hK=>?_) ?_
        ·clear hh
         go_simp
         refine hK.out _ _ ?_ (fun hh=>?_)
         ·(first|exact (HSS.out _ br_).1|exact (HSS.out _ bd_).1|exact (HSS.out _ (bt_ bd_ (bn_ _ _))).1|exact k1.out|exact k3.out)
         clear hK K
         try simp only [Act.put,la_,lz_,ls_]
         refine wpAnyH_done (by kernel_rfl) ?_ _
         clear k1 k2 f2 k3 k2' g2 g2b g2d
         go_wp2_with fail
         go_roundw
         case rel=>exact ⟨2,_,_,by omega,by go_num,T9.out,C9.out.setSame _,by have h:=U9.out;rw [show L++List.take 2 [(a,[Value.int .i64 (i:Int)]),(b,[Value.int .i64 (i:Int)])]=(L++[(a,[Value.int .i64 (i:Int)])])++[(b,[Value.int .i64 (i:Int)])] from by rw [List.append_assoc];rfl];exact hd_ h⟩
         case measure=>simp [intOf]
        exact AllReadyH.nil
       exact AllReadyH.nil
     ·go_wp2_with fail
      go_roundw
      case rel=>exact ⟨i+1,f,rs,by omega,by go_num,R1.out,C1.out,by rw [HEV.out];exact HRA⟩
      case measure=>simp [intOf];omega
  have hin':(i:Int)<(N:Int):=by omega
  have XX:=hd_ (HX.out _ GG.out.chg)
  have a0:=XX.out.cell 0
  have a1:=XX.out.cell 1
  have a2:=XX.out.cell 2
  have HW:=hd_ (rwhat_any W H T (i:Int))
  have HNX:=hd_ (trTo_next W H T i)
  have HT:=hd_ (show trkB W H T i=(whK W H T (i:Int)==4||whK W H T (i:Int)==5) from rfl)
  generalize trkB W H T i=tv at HNX HT
  generalize whK W H T (i:Int)=kk at HW HT
  go_wp2_with fail
  refine (HW.out _).mono ?_
  rintro e w5 ⟨rfl,hb5⟩
  have G5:=hd_ (GG.out.keep hb5)
  clear a0 a1 a2 hb5 XX GG HW
  have x0:=G5.out.blk.cell 0
  have hsz5:=G5.out.chg.size
  by_cases c4:(kk==4)=true
  ·have HTV:=hd_ (show tv=true by rw [HT.out,c4];rfl)
   go_wp2_with (at_builtin;refine wpList_app_at rfl (.tmp 32) (.tmp 39) 35 4 rfl Tryz.underlying35 _ 1 1 bool_infoA rfl (by decide) (by decide) w4.heap.size AT i cT (bools (trTo W H T i)) rfl (G5.out.trk.alloc _) ⟨w5.heap.size,0,none⟩ 1 [.bool true] rfl (rd_of_blk (Blk.made _ _ _) 1 1 rfl) (by simp [Value.oneCell']) (by omega) (by simp;omega) ?_)
   intro A7 c7 w7 hown7 hgr7 hat7
   obtain ⟨hX7,hG8⟩:=G5.out.push1 hown7 hgr7
   have G8:=hd_ hG8
   have x7:=hX7.cell 0
   have f7:=hX7.free 0
   clear hown7 hgr7 hat7 hX7 hG8 x0 G5
   go_upto_region 8 with (fail)
   clear x7 f7
   generalize w7.setCell ⟨b2,0,none⟩ (.slice A7 (i+1) c7)=w8 at G8 ⊢
   have x2:=G8.out.blk.cell 2
   have hsz8:=G8.out.chg.size
   go_wp2_with (at_builtin;refine wpList_app_at rfl (.tmp 43) (.tmp 44) 30 25 rfl Tryz.underlying30 _ 1 24 rows_infoA rfl (by decide) (by decide) w4.heap.size AA i cA (List.replicate i (.slice none 0 0)) rfl (G8.out.att.alloc _) ⟨w8.heap.size,0,none⟩ 1 [.slice none 0 0] rfl (rd_of_blk (Blk.made _ _ _) 1 1 rfl) (by simp [Value.oneCell']) (by omega) (by simp;omega) ?_)
   intro A9 c9 w9 hown9 hgr9 hat9
   obtain ⟨hX9,hG9⟩:=G8.out.push2 hown9 hgr9
   have x9:=hX9.cell 2
   have f9:=hX9.free 2
   have G9:=hd_ hG9
   clear hown9 hgr9 hat9 hX9 hG9 x2 G8
   go_wp2_with fail
   go_roundw
   case rel=>exact ⟨i+1,A7,c7,A9,c9,by omega,by go_num,by rw [HNX.out,HTV.out];exact G9.out⟩
   case measure=>simp [intOf];omega
  have c4':(kk==4)=false:=by simpa using c4
  by_cases c5:(kk==5)=true
  ·have HTV:=hd_ (show tv=true by rw [HT.out,c4',c5];rfl)
   clear c4
   go_wp2_with (at_builtin;refine wpList_app_at rfl (.tmp 32) (.tmp 39) 35 4 rfl Tryz.underlying35 _ 1 1 bool_infoA rfl (by decide) (by decide) w4.heap.size AT i cT (bools (trTo W H T i)) rfl (G5.out.trk.alloc _) ⟨w5.heap.size,0,none⟩ 1 [.bool true] rfl (rd_of_blk (Blk.made _ _ _) 1 1 rfl) (by simp [Value.oneCell']) (by omega) (by simp;omega) ?_)
   intro A7 c7 w7 hown7 hgr7 hat7
   obtain ⟨hX7,hG8⟩:=G5.out.push1 hown7 hgr7
   have G8:=hd_ hG8
   have x7:=hX7.cell 0
   have f7:=hX7.free 0
   clear hown7 hgr7 hat7 hX7 hG8 x0 G5
   go_upto_region 8 with (fail)
   clear x7 f7
   generalize w7.setCell ⟨b2,0,none⟩ (.slice A7 (i+1) c7)=w8 at G8 ⊢
   have x2:=G8.out.blk.cell 2
   have hsz8:=G8.out.chg.size
   go_wp2_with (at_builtin;refine wpList_app_at rfl (.tmp 43) (.tmp 44) 30 25 rfl Tryz.underlying30 _ 1 24 rows_infoA rfl (by decide) (by decide) w4.heap.size AA i cA (List.replicate i (.slice none 0 0)) rfl (G8.out.att.alloc _) ⟨w8.heap.size,0,none⟩ 1 [.slice none 0 0] rfl (rd_of_blk (Blk.made _ _ _) 1 1 rfl) (by simp [Value.oneCell']) (by omega) (by simp;omega) ?_)
   intro A9 c9 w9 hown9 hgr9 hat9
   obtain ⟨hX9,hG9⟩:=G8.out.push2 hown9 hgr9
   have x9:=hX9.cell 2
   have f9:=hX9.free 2
   have G9:=hd_ hG9
   clear hown9 hgr9 hat9 hX9 hG9 x2 G8
   go_wp2_with fail
   go_roundw
   case rel=>exact ⟨i+1,A7,c7,A9,c9,by omega,by go_num,by rw [HNX.out,HTV.out];exact G9.out⟩
   case measure=>simp [intOf];omega
  have c5':(kk==5)=false:=by simpa using c5
  have HTV:=hd_ (show tv=false by rw [HT.out,c4',c5'];rfl)
  clear c4 c5
  go_wp2_with (at_builtin;refine wpList_app_at rfl (.tmp 32) (.tmp 39) 35 4 rfl Tryz.underlying35 _ 1 1 bool_infoA rfl (by decide) (by decide) w4.heap.size AT i cT (bools (trTo W H T i)) rfl (G5.out.trk.alloc _) ⟨w5.heap.size,0,none⟩ 1 [.bool false] rfl (rd_of_blk (Blk.made _ _ _) 1 1 rfl) (by simp [Value.oneCell']) (by omega) (by simp;omega) ?_)
  intro A7 c7 w7 hown7 hgr7 hat7
  obtain ⟨hX7,hG8⟩:=G5.out.push1 hown7 hgr7
  have G8:=hd_ hG8
  have x7:=hX7.cell 0
  have f7:=hX7.free 0
  clear hown7 hgr7 hat7 hX7 hG8 x0 G5
  go_upto_region 8 with (fail)
  clear x7 f7
  generalize w7.setCell ⟨b2,0,none⟩ (.slice A7 (i+1) c7)=w8 at G8 ⊢
  have x2:=G8.out.blk.cell 2
  have hsz8:=G8.out.chg.size
  go_wp2_with (at_builtin;refine wpList_app_at rfl (.tmp 43) (.tmp 44) 30 25 rfl Tryz.underlying30 _ 1 24 rows_infoA rfl (by decide) (by decide) w4.heap.size AA i cA (List.replicate i (.slice none 0 0)) rfl (G8.out.att.alloc _) ⟨w8.heap.size,0,none⟩ 1 [.slice none 0 0] rfl (rd_of_blk (Blk.made _ _ _) 1 1 rfl) (by simp [Value.oneCell']) (by omega) (by simp;omega) ?_)
  intro A9 c9 w9 hown9 hgr9 hat9
  obtain ⟨hX9,hG9⟩:=G8.out.push2 hown9 hgr9
  have x9:=hX9.cell 2
  have f9:=hX9.free 2
  have G9:=hd_ hG9
  clear hown9 hgr9 hat9 hX9 hG9 x2 G8
  go_wp2_with fail
  go_roundw
  case rel=>exact ⟨i+1,A7,c7,A9,c9,by omega,by go_num,by rw [HNX.out,HTV.out];exact G9.out⟩
  case measure=>simp [intOf];omega
def RiseAll (ne:Nat) (ways:List (List Int)):Prop:=∀ k,k<ways.length->RiseP (ne:Int) (ways.getD k [])
def JoinAll (es:List (Int × Int)) (wl:List WP) (ways:List (List Int)):Prop:=∀ k,k<wl.length->∀ t ∈ (wl.getD k (0,[])).2,Jn es (ways.getD k []) (wl.getD k (0,[])).1.toNat t.toNat
noncomputable instance (ne:Nat) (ways:List (List Int)):Decidable (RiseAll ne ways):=Classical.propDecidable _
noncomputable instance (es:List (Int × Int)) (wl:List WP) (ways:List (List Int)):Decidable (JoinAll es wl ways):=Classical.propDecidable _
noncomputable def chk30 (W H T:Int) (wl:List WP) (ways:List (List Int)):Int :=
 if ¬ okA W H T then 1 else if ¬ MayP W H T wl then 1 else if ways.length≠wl.length then 1
 else if ¬ RiseAll (edgesL W H T).length ways then 1
 else if ¬ ApartP (goodW (trTo W H T (nodesI W H T).toNat) wl) (wTo (edgesL W H T) ways ways.length) then 320
 else if ¬ JoinAll (edgesL W H T) wl ways then 300 else 0
theorem may_from {W H T:Int} {ws:List WM} {i:Nat} (h:MayP W H T (wpl ws)) (hi:i<ws.length):isN W H T ws[i].1∧∀ t ∈ ws[i].2.2.2,isN W H T t:=by
 have key:∀ kd n,endOk W H T kd n->isN W H T n:=fun kd n he=>by
  by_cases hn:isN W H T n
  ·exact hn
  ·have:=(wh_no hn).2.2.2.2
   have h2:=he.1
   omega
 obtain ⟨r,hr⟩:=ends_split hi
 have h2:=h.2.1
 rw [hr] at h2
 refine ⟨key 1 _ (h2 (1,ws[i].1) ?_),fun t ht=>key 2 _ (h2 (2,t) ?_)⟩
 ·unfold eAt;simp
 ·unfold eAt;rw [List.take_length]
  exact List.mem_append.2 (.inr (List.mem_append.2 (.inl (List.mem_cons_of_mem _ (List.mem_map.2 ⟨t,ht,rfl⟩)))))
theorem rise_in {E:Int} {l:List Int} (h:RiseP E l):∀ s ∈ l,0<=s∧s<E:=fun s hs=>by
 obtain ⟨k,hk,rfl⟩:=List.getElem_of_mem hs
 have:=(badB_any.1 h.1) k hk
 rw [List.getD_eq_getElem?_getD,List.getElem?_eq_getElem hk] at this
 exact this
end Go.Proofs.YtmkiphadkmodnaaGreat
