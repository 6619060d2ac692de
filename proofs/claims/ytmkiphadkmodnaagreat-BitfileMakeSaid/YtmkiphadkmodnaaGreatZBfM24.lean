/- BfM, 24 -/
import Derived.Deep.RegionHeld3
import Derived.Deep.QuietTactic
import Derived.BigQuiet
import Derived.IntWalk
import Derived.Test.YtmkiphadkmodnaaGreatZBfM22
import Derived.Test.YtmkiphadkmodnaaGreatZBfM0
import Derived.Test.YtmkiphadkmodnaaGreatZBfM23
set_option linter.all false
set_option maxRecDepth 100000
set_option maxHeartbeats 8000000
namespace Go.Proofs.YtmkiphadkmodnaaGreat
open Go.RowKit Go.Shelf
attribute [local go_sem] Oper.semAt_some
theorem bget_short (A:Option Addr) (n c:Nat) (l:List Nat) (w:World) (hln:l.length=n) (h15:n<15):BGET A n c w (GetOut l w):=by
 unfold BGET
 obtain ⟨R,hR⟩:∃ R,GetOut l w=R:=⟨_,rfl⟩
 rw [hR]
 have HR:=hd_ hR
 have hx:getE l=310:=by unfold getE;rw [if_pos (.inl (by omega))]
 have HX:=hd_ hx
 have hd15:decide ((n:Int)<15)=true:=decide_eq_true (by omega)
 have r0:=Blk.made w 37 #[.int .i64 0,.int .i64 0,.int .i64 0,.slice none 0 0,.slice none 0 0,.slice none 0 0,.slice none 0 0]
 have q0:=bn_ w (.cells #[.int .i64 0,.int .i64 0,.int .i64 0,.slice none 0 0,.slice none 0 0,.slice none 0 0,.slice none 0 0] 37)
 have HR0:=hd_ r0
 have HQ0:=hd_ q0
 clear hR hx hln r0 q0
 go_enter Tryz.func12,Tryz.ntmps12
 go_wp2_with fail
 rw [<- HR.out]
 exact get_err0 rfl l w _ _ 310 HQ0.out HR0.out HX.out (by decide) rfl rfl
end Go.Proofs.YtmkiphadkmodnaaGreat
namespace Go.Proofs.YtmkiphadkmodnaaGreat
open Go.RowKit Go.Shelf
structure RB (w0 wx:World) (W H T:Int):Prop where
 below:Below w0.heap.size w0 wx
 res:Blk wx w0.heap.size 37 zero7
 non:Blk wx (w0.heap.size+1) 37 zero7
 arch:Blk wx (w0.heap.size+2) 23 #[.int .i64 W,.int .i64 H,.int .i64 T]
structure RG (w0 wx:World) (gc:Nat) (W H T:Int) (C:Cfg):Prop where
 gw:GW w0 wx gc C
 non:Blk wx (w0.heap.size+1) 37 zero7
 arch:Blk wx (w0.heap.size+2) 23 #[.int .i64 W,.int .i64 H,.int .i64 T]
 hgc:w0.heap.size+2<gc
section
variable {w0 wx wy w' : World} {gc : Nat} {W H T : Int} {C : Cfg}
theorem RB.keep (h:RB w0 wx W H T) (hb:Below wx.heap.size wx wy):RB w0 wy W H T:=⟨bt_ h.below hb,h.res.keep hb,h.non.keep hb,h.arch.keep hb⟩
theorem RG.keep (h:RG w0 wx gc W H T C) (hb:Below wx.heap.size wx wy):RG w0 wy gc W H T C:=⟨h.gw.keep hb,h.non.keep hb,h.arch.keep hb,h.hgc⟩
theorem RG.drewN (h:RG w0 wx gc W H T C) (k:Nat):RG w0 (wx.drewN k) gc W H T C:=h.keep (below_drewN br_ k)
theorem RB.cells (h:RB w0 wx W H T):wx.cell? ⟨w0.heap.size+2,0,none⟩=some (.int .i64 W)∧wx.cell? ⟨w0.heap.size+2,1,none⟩=some (.int .i64 H)∧wx.cell? ⟨w0.heap.size+2,2,none⟩=some (.int .i64 T):=⟨h.arch.cell 0,h.arch.cell 1,h.arch.cell 2⟩
theorem RG.rb (h:RG w0 wx gc W H T C):RB w0 wx W H T:=⟨h.gw.below,h.gw.res,h.non,h.arch⟩
theorem RG.start (h:RB w0 wx W H T):RG w0 (wx.alloc (.cells #[.int .i64 W,.int .i64 H,.int .i64 T,.slice none 0 0,.slice none 0 0,.slice none 0 0,.slice none 0 0] 37)) wx.heap.size W H T (cfg0 W H T):=by
 have h2:=h.arch.lt
 exact ⟨⟨bt_ h.below (bn_ _ _),h.res.alloc _,Blk.made wx 37 (cfg0 W H T).cells,by omega,World.ownsRow_nil _ _ _ _,World.ownsRow_nil _ _ _ _,World.ownsRow_nil _ _ _ _,World.ownsRow_nil _ _ _ _,.inl rfl⟩,h.non.alloc _,h.arch.alloc _,by omega⟩
theorem RG.two (h:RG w0 wx gc W H T C) {row:Option Nat} (hg:wx.grownBy w' row) (hr:∀ g,row=some g->gc<g) (i:Nat) (u:Value) :
  Blk (w'.setCell ⟨gc,i,none⟩ u) (w0.heap.size+1) 37 zero7∧Blk (w'.setCell ⟨gc,i,none⟩ u) (w0.heap.size+2) 23 #[.int .i64 W,.int .i64 H,.int .i64 T]:=by
 have:=h.hgc
 exact ⟨(h.non.grown hg (fun e=>by have:=hr _ e.symm;omega)).apart (p:=⟨gc,i,none⟩) (by simp;omega) u,(h.arch.grown hg (fun e=>by have:=hr _ e.symm;omega)).apart (p:=⟨gc,i,none⟩) (by simp;omega) u⟩
theorem RG.setT (h:RG w0 wx gc W H T C) {A:Option Addr} {d n:Nat} {t:TL} (hg:wx.grownBy w' C.AT'.ownBlock) (hn:n=C.tiles.length+1) (ho:w'.ownsRow (gc+1) 65 3 (.slice A n d) n (tiles3 (C.tiles++[t]))) :
  RG w0 (w'.setCell ⟨gc,3,none⟩ (.slice A n d)) gc W H T { C with AT:=A,cT:=d,tiles:=C.tiles++[t] }:=by
 obtain ⟨h1,h2⟩:=h.two hg (fun g e=>own_base h.gw.rT e) 3 (.slice A n d)
 exact ⟨h.gw.setT hg hn ho,h1,h2,h.hgc⟩
theorem RG.setO (h:RG w0 wx gc W H T C) {A:Option Addr} {d n:Nat} {t:Bool} (hg:wx.grownBy w' C.AO'.ownBlock) (hn:n=C.on.length+1) (ho:w'.ownsRow (gc+1) 4 1 (.slice A n d) n (bools (C.on++[t]))) :
  RG w0 (w'.setCell ⟨gc,4,none⟩ (.slice A n d)) gc W H T { C with AO:=A,cO:=d,on:=C.on++[t] }:=by
 obtain ⟨h1,h2⟩:=h.two hg (fun g e=>own_base h.gw.rO e) 4 (.slice A n d)
 exact ⟨h.gw.setO hg hn ho,h1,h2,h.hgc⟩
theorem RG.setI (h:RG w0 wx gc W H T C) {A:Option Addr} {d n:Nat} {t:Int} (hU:C.AU'.ownBlock=none) (hg:wx.grownBy w' C.AI'.ownBlock) (hn:n=C.ins.length+1) (ho:w'.ownsRow (gc+1) 3 1 (.slice A n d) n (ints (C.ins++[t]))) :
  RG w0 (w'.setCell ⟨gc,5,none⟩ (.slice A n d)) gc W H T { C with AI:=A,cI:=d,ins:=C.ins++[t] }:=by
 obtain ⟨h1,h2⟩:=h.two hg (fun g e=>own_base h.gw.rI e) 5 (.slice A n d)
 exact ⟨h.gw.setI hU hg hn ho,h1,h2,h.hgc⟩
theorem RG.setU (h:RG w0 wx gc W H T C) {A:Option Addr} {d n:Nat} {t:Int} (hg:wx.grownBy w' C.AU'.ownBlock) (hat:(Value.slice A n d).ownBlock=C.AU'.ownBlock∨∀ g,(Value.slice A n d).ownBlock=some g->wx.heap.size<=g) (hn:n=C.outs.length+1) (ho:w'.ownsRow (gc+1) 3 1 (.slice A n d) n (ints (C.outs++[t]))) :
  RG w0 (w'.setCell ⟨gc,6,none⟩ (.slice A n d)) gc W H T { C with AU:=A,cU:=d,outs:=C.outs++[t] }:=by
 obtain ⟨h1,h2⟩:=h.two hg (fun g e=>own_base h.gw.rU e) 6 (.slice A n d)
 exact ⟨h.gw.setU hg hat hn ho,h1,h2,h.hgc⟩
end
end Go.Proofs.YtmkiphadkmodnaaGreat
