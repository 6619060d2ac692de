/- BfM, 20 -/
import Derived.Test.YtmkiphadkmodnaaGreatZBfM9
import Derived.Test.YtmkiphadkmodnaaGreatZBfM19
import Derived.Test.YtmkiphadkmodnaaGreatZBfM7
import Derived.Test.YtmkiphadkmodnaaGreatZBfM0
set_option linter.all false
set_option maxRecDepth 100000
set_option maxHeartbeats 8000000
namespace Go.Proofs.YtmkiphadkmodnaaGreat
open Go.RowKit
theorem few_tiles {C:Cfg} (h:C.few):C.tiles.length<=100000000:=by have:=h.1;omega
theorem few_on {C:Cfg} (h:C.few):C.on.length<=100000000:=by have:=h.2.1;omega
theorem few_ins {C:Cfg} (h:C.few):C.ins.length<=100000000:=by have:=h.2.2.1;omega
theorem few_outs {C:Cfg} (h:C.few):C.outs.length<=100000000:=by have:=h.2.2.2;omega
structure Two7 (w0 wx:World) (C D:Cfg):Prop where
 below:Below w0.heap.size w0 wx
 c:Box7 wx w0.heap.size C
 d:Box7 wx (w0.heap.size+1) D
theorem Two7.keep {w0 wx wy:World} {C D:Cfg} (h:Two7 w0 wx C D) (hb:Below wx.heap.size wx wy):Two7 w0 wy C D:=⟨bt_ h.below hb,h.c.below hb,h.d.below hb⟩
theorem Two7.new (w:World) (C D:Cfg):Two7 w ((w.alloc (.cells #[.int .i64 C.W,.int .i64 C.H,.int .i64 C.T,.slice C.AT C.tiles.length C.cT,.slice C.AO C.on.length C.cO,.slice C.AI C.ins.length C.cI,.slice C.AU C.outs.length C.cU] 37)).alloc (.cells #[.int .i64 D.W,.int .i64 D.H,.int .i64 D.T,.slice D.AT D.tiles.length D.cT,.slice D.AO D.on.length D.cO,.slice D.AI D.ins.length D.cI,.slice D.AU D.outs.length D.cU] 37)) C D :=
 ⟨(bn_ w _).alloc (by simp) _,(Box7.new w C 37).below (bn_ _ _),by have:=Box7.new (w.alloc (.cells #[.int .i64 C.W,.int .i64 C.H,.int .i64 C.T,.slice C.AT C.tiles.length C.cT,.slice C.AO C.on.length C.cO,.slice C.AI C.ins.length C.cI,.slice C.AU C.outs.length C.cU] 37)) D 37;rwa [World.size_alloc] at this⟩
theorem bsame_ins (C D:Cfg) (w:World) (hC:C.In w) (hD:D.In w) (fC:C.few) (fD:D.few) (eW:C.W=D.W) (eH:C.H=D.H) (eT:C.T=D.T) (etiles:C.tiles=D.tiles) (eon:C.on=D.on) (nins:¬ C.ins=D.ins) :
  Calls Tryz.prog 15 #[.agg #[.int .i64 C.W,.int .i64 C.H,.int .i64 C.T,.slice C.AT C.tiles.length C.cT,.slice C.AO C.on.length C.cO,.slice C.AI C.ins.length C.cI,.slice C.AU C.outs.length C.cU],.agg #[.int .i64 D.W,.int .i64 D.H,.int .i64 D.T,.slice D.AT D.tiles.length D.cT,.slice D.AO D.on.length D.cO,.slice D.AI D.ins.length D.cI,.slice D.AU D.outs.length D.cU]] w fun e w'=>e=.returned (.bool false)∧Below w.heap.size w w':=by
 have dW:(C.W==D.W)=true:=beq_iff_eq.2 eW
 have dH:(C.H==D.H)=true:=beq_iff_eq.2 eH
 have dT:(C.T==D.T)=true:=beq_iff_eq.2 eT
 clear eW
 clear eH
 clear eT
 have HC:=hd_ hC
 have HD:=hd_ hD
 have T0:=hd_ (Two7.new w C D)
 clear hC hD
 have Etiles:=hd_ (show decide (C.tiles=D.tiles)=true from decide_eq_true etiles)
 clear etiles
 have Eon:=hd_ (show decide (C.on=D.on)=true from decide_eq_true eon)
 clear eon
 have Eins:=hd_ (show decide (C.ins=D.ins)=false from decide_eq_false nins)
 clear nins
 go_enter Tryz.func15,Tryz.ntmps15
 obtain ⟨z0,a00,a01,a02,a03,a04,a05,a06⟩:=T0.out.c
 obtain ⟨y0,b00,b01,b02,b03,b04,b05,b06⟩:=T0.out.d
 go_wp2_with fail
 refine (eqT_any _ _ _ _ _ _ _ _ _ (HC.out.later T0.out.below).tiles (HD.out.later T0.out.below).tiles (few_tiles fC) (few_tiles fD) true Etiles.out).mono ?_
 rintro e w1 ⟨rfl,hb⟩
 have T1:=hd_ (T0.out.keep hb)
 clear hb
 clear z0 a00 a01 a02 a03 a04 a05 a06 y0 b00 b01 b02 b03 b04 b05 b06
 obtain ⟨z1,a10,a11,a12,a13,a14,a15,a16⟩:=T1.out.c
 obtain ⟨y1,b10,b11,b12,b13,b14,b15,b16⟩:=T1.out.d
 go_wp2_with fail
 refine (eqB_any _ _ _ _ _ _ _ _ _ (HC.out.later T1.out.below).on (HD.out.later T1.out.below).on (few_on fC) (few_on fD) true Eon.out).mono ?_
 rintro e w2 ⟨rfl,hb⟩
 have T2:=hd_ (T1.out.keep hb)
 clear hb
 clear z1 a10 a11 a12 a13 a14 a15 a16 y1 b10 b11 b12 b13 b14 b15 b16
 obtain ⟨z2,a20,a21,a22,a23,a24,a25,a26⟩:=T2.out.c
 obtain ⟨y2,b20,b21,b22,b23,b24,b25,b26⟩:=T2.out.d
 go_wp2_with fail
 refine (eqI_any _ _ _ _ _ _ _ _ _ (HC.out.later T2.out.below).ins (HD.out.later T2.out.below).ins (few_ins fC) (few_ins fD) false Eins.out).mono ?_
 rintro e w3 ⟨rfl,hb⟩
 have T3:=hd_ (T2.out.keep hb)
 clear hb
 clear z2 a20 a21 a22 a23 a24 a25 a26 y2 b20 b21 b22 b23 b24 b25 b26
 obtain ⟨z3,a30,a31,a32,a33,a34,a35,a36⟩:=T3.out.c
 obtain ⟨y3,b30,b31,b32,b33,b34,b35,b36⟩:=T3.out.d
 go_wp2_with fail
 go_ret
 exact ⟨rfl,T3.out.below⟩
theorem bsame_all (C D:Cfg) (w:World) (hC:C.In w) (hD:D.In w) (fC:C.few) (fD:D.few) (eW:C.W=D.W) (eH:C.H=D.H) (eT:C.T=D.T) (etiles:C.tiles=D.tiles) (eon:C.on=D.on) (eins:C.ins=D.ins) (eouts:C.outs=D.outs) :
  Calls Tryz.prog 15 #[.agg #[.int .i64 C.W,.int .i64 C.H,.int .i64 C.T,.slice C.AT C.tiles.length C.cT,.slice C.AO C.on.length C.cO,.slice C.AI C.ins.length C.cI,.slice C.AU C.outs.length C.cU],.agg #[.int .i64 D.W,.int .i64 D.H,.int .i64 D.T,.slice D.AT D.tiles.length D.cT,.slice D.AO D.on.length D.cO,.slice D.AI D.ins.length D.cI,.slice D.AU D.outs.length D.cU]] w fun e w'=>e=.returned (.bool true)∧Below w.heap.size w w':=by
 have dW:(C.W==D.W)=true:=beq_iff_eq.2 eW
 have dH:(C.H==D.H)=true:=beq_iff_eq.2 eH
 have dT:(C.T==D.T)=true:=beq_iff_eq.2 eT
 clear eW
 clear eH
 clear eT
 have HC:=hd_ hC
 have HD:=hd_ hD
 have T0:=hd_ (Two7.new w C D)
 clear hC hD
 have Etiles:=hd_ (show decide (C.tiles=D.tiles)=true from decide_eq_true etiles)
 clear etiles
 have Eon:=hd_ (show decide (C.on=D.on)=true from decide_eq_true eon)
 clear eon
 have Eins:=hd_ (show decide (C.ins=D.ins)=true from decide_eq_true eins)
 clear eins
 have Eouts:=hd_ (show decide (C.outs=D.outs)=true from decide_eq_true eouts)
 clear eouts
 go_enter Tryz.func15,Tryz.ntmps15
 obtain ⟨z0,a00,a01,a02,a03,a04,a05,a06⟩:=T0.out.c
 obtain ⟨y0,b00,b01,b02,b03,b04,b05,b06⟩:=T0.out.d
 go_wp2_with fail
 refine (eqT_any _ _ _ _ _ _ _ _ _ (HC.out.later T0.out.below).tiles (HD.out.later T0.out.below).tiles (few_tiles fC) (few_tiles fD) true Etiles.out).mono ?_
 rintro e w1 ⟨rfl,hb⟩
 have T1:=hd_ (T0.out.keep hb)
 clear hb
 clear z0 a00 a01 a02 a03 a04 a05 a06 y0 b00 b01 b02 b03 b04 b05 b06
 obtain ⟨z1,a10,a11,a12,a13,a14,a15,a16⟩:=T1.out.c
 obtain ⟨y1,b10,b11,b12,b13,b14,b15,b16⟩:=T1.out.d
 go_wp2_with fail
 refine (eqB_any _ _ _ _ _ _ _ _ _ (HC.out.later T1.out.below).on (HD.out.later T1.out.below).on (few_on fC) (few_on fD) true Eon.out).mono ?_
 rintro e w2 ⟨rfl,hb⟩
 have T2:=hd_ (T1.out.keep hb)
 clear hb
 clear z1 a10 a11 a12 a13 a14 a15 a16 y1 b10 b11 b12 b13 b14 b15 b16
 obtain ⟨z2,a20,a21,a22,a23,a24,a25,a26⟩:=T2.out.c
 obtain ⟨y2,b20,b21,b22,b23,b24,b25,b26⟩:=T2.out.d
 go_wp2_with fail
 refine (eqI_any _ _ _ _ _ _ _ _ _ (HC.out.later T2.out.below).ins (HD.out.later T2.out.below).ins (few_ins fC) (few_ins fD) true Eins.out).mono ?_
 rintro e w3 ⟨rfl,hb⟩
 have T3:=hd_ (T2.out.keep hb)
 clear hb
 clear z2 a20 a21 a22 a23 a24 a25 a26 y2 b20 b21 b22 b23 b24 b25 b26
 obtain ⟨z3,a30,a31,a32,a33,a34,a35,a36⟩:=T3.out.c
 obtain ⟨y3,b30,b31,b32,b33,b34,b35,b36⟩:=T3.out.d
 go_wp2_with fail
 refine (eqI_any _ _ _ _ _ _ _ _ _ (HC.out.later T3.out.below).outs (HD.out.later T3.out.below).outs (few_outs fC) (few_outs fD) true Eouts.out).mono ?_
 rintro e w4 ⟨rfl,hb⟩
 have T4:=hd_ (T3.out.keep hb)
 clear hb
 clear z3 a30 a31 a32 a33 a34 a35 a36 y3 b30 b31 b32 b33 b34 b35 b36
 obtain ⟨z4,a40,a41,a42,a43,a44,a45,a46⟩:=T4.out.c
 obtain ⟨y4,b40,b41,b42,b43,b44,b45,b46⟩:=T4.out.d
 go_wp2_with fail
 go_ret
 exact ⟨rfl,T4.out.below⟩
def few31 (C:Cfg):Prop:=C.W<=6∧C.H<=6∧C.T<=8∧C.tiles.length<=100∧C.on.length<=10000∧C.ins.length<=100∧C.outs.length<=100
instance (C:Cfg):Decidable (few31 C):=by unfold few31;infer_instance
theorem rsame_all (C D:Cfg) (w:World) (hC:C.In w) (hD:D.In w) (fC:C.few) (fD:D.few) (eW:C.W=D.W) (eH:C.H=D.H) (eT:C.T=D.T) (eon:C.on=D.on) (eins:C.ins=D.ins) (eouts:C.outs=D.outs) (etiles:C.tiles=D.tiles) (elen:C.tiles.length=D.tiles.length) :
  Calls Tryz.prog 9 #[.agg #[.int .i64 C.W,.int .i64 C.H,.int .i64 C.T,.slice C.AT C.tiles.length C.cT,.slice C.AO C.on.length C.cO,.slice C.AI C.ins.length C.cI,.slice C.AU C.outs.length C.cU],.agg #[.int .i64 D.W,.int .i64 D.H,.int .i64 D.T,.slice D.AT D.tiles.length D.cT,.slice D.AO D.on.length D.cO,.slice D.AI D.ins.length D.cI,.slice D.AU D.outs.length D.cU]] w fun e w'=>e=.returned (.bool true)∧Below w.heap.size w w':=by
 have dW:(C.W==D.W)=true:=beq_iff_eq.2 eW
 have dH:(C.H==D.H)=true:=beq_iff_eq.2 eH
 have dT:(C.T==D.T)=true:=beq_iff_eq.2 eT
 clear eW
 clear eH
 clear eT
 have dl:((C.tiles.length:Int) != (D.tiles.length:Int))=false:=by rw [bne_eq_false_iff_eq];omega
 have HC:=hd_ hC
 have HD:=hd_ hD
 have T0:=hd_ (Two7.new w C D)
 have ft:=few_tiles fC
 clear hC hD
 have Eon:=hd_ (show decide (C.on=D.on)=true from decide_eq_true eon)
 clear eon
 have Eins:=hd_ (show decide (C.ins=D.ins)=true from decide_eq_true eins)
 clear eins
 have Eouts:=hd_ (show decide (C.outs=D.outs)=true from decide_eq_true eouts)
 clear eouts
 have ET:=hd_ etiles
 clear etiles
 have EL:=hd_ elen
 clear elen
 go_enter Tryz.func9,Tryz.ntmps9
 obtain ⟨z0,a00,a01,a02,a03,a04,a05,a06⟩:=T0.out.c
 obtain ⟨y0,b00,b01,b02,b03,b04,b05,b06⟩:=T0.out.d
 go_wp2_with fail
 refine (rBools_any _ _ _ _ _ _ _ _ _ (HC.out.later T0.out.below).on (HD.out.later T0.out.below).on (few_on fC) (few_on fD) true Eon.out).mono ?_
 rintro e w1 ⟨rfl,hb⟩
 have T1:=hd_ (T0.out.keep hb)
 clear hb
 clear z0 a00 a01 a02 a03 a04 a05 a06 y0 b00 b01 b02 b03 b04 b05 b06
 obtain ⟨z1,a10,a11,a12,a13,a14,a15,a16⟩:=T1.out.c
 obtain ⟨y1,b10,b11,b12,b13,b14,b15,b16⟩:=T1.out.d
 go_wp2_with fail
 refine (rInts_any _ _ _ _ _ _ _ _ _ (HC.out.later T1.out.below).ins (HD.out.later T1.out.below).ins (few_ins fC) (few_ins fD) true Eins.out).mono ?_
 rintro e w2 ⟨rfl,hb⟩
 have T2:=hd_ (T1.out.keep hb)
 clear hb
 clear z1 a10 a11 a12 a13 a14 a15 a16 y1 b10 b11 b12 b13 b14 b15 b16
 obtain ⟨z2,a20,a21,a22,a23,a24,a25,a26⟩:=T2.out.c
 obtain ⟨y2,b20,b21,b22,b23,b24,b25,b26⟩:=T2.out.d
 go_wp2_with fail
 refine (rInts_any _ _ _ _ _ _ _ _ _ (HC.out.later T2.out.below).outs (HD.out.later T2.out.below).outs (few_outs fC) (few_outs fD) true Eouts.out).mono ?_
 rintro e w3 ⟨rfl,hb⟩
 have T3:=hd_ (T2.out.keep hb)
 clear hb
 clear z2 a20 a21 a22 a23 a24 a25 a26 y2 b20 b21 b22 b23 b24 b25 b26
 obtain ⟨z3,a30,a31,a32,a33,a34,a35,a36⟩:=T3.out.c
 obtain ⟨y3,b30,b31,b32,b33,b34,b35,b36⟩:=T3.out.d
 go_wp2_with fail
 clear z3 a30 a31 a32 a33 a34 a35 a36 y3 b30 b31 b32 b33 b34 b35 b36
 go_loopw [5] (fun i wx=>∃ q:Nat,q<=C.tiles.length∧i=.int .i64 (q:Int)∧C.tiles.take q=D.tiles.take q∧Two7 w wx C D) (fun i _=>C.tiles.length-(intOf i).toNat)
 case atStart=>exact ⟨0,by omega,rfl,by simp,T3.out⟩
 case round =>
  clear T3
  obtain ⟨q,hq,rfl,htk,ht⟩:=hrel
  have TQ:=hd_ ht
  have HTK:=hd_ htk
  clear ht htk
  obtain ⟨z9,a90,a91,a92,a93,a94,a95,a96⟩:=TQ.out.c
  obtain ⟨y9,b90,b91,b92,b93,b94,b95,b96⟩:=TQ.out.d
  by_cases hlt:q<C.tiles.length
  ·have hlt2:q<D.tiles.length:=by have:=EL.out;omega
   obtain ⟨a,ha,-,c0,c1,c2⟩:=(HC.out.later TQ.out.below).tiles.tile (k:=q) hlt
   obtain ⟨b,hb,-,d0,d1,d2⟩:=(HD.out.later TQ.out.below).tiles.tile (k:=q) hlt2
   rw [ha] at a93
   rw [hb] at b93
   clear ha hb
   have h0:(0:Int)<=(q:Int):=by omega
   have h1:(q:Int)<(C.tiles.length:Int):=by omega
   have h2:(q:Int)<(D.tiles.length:Int):=by omega
   have he:C.tiles[q]! = D.tiles[q]!:=by rw [ET.out]
   have HNX:=hd_ (take_eq_next (0,false,false) hlt hlt2 HTK.out (by rw [getT_eq hlt,getT_eq hlt2];exact he))
   rw [he] at c0 c1 c2
   clear he
   generalize D.tiles[q]! = z at c0 c1 c2 d0 d1 d2
   obtain ⟨z0,z1,z2⟩:=z
   simp only at c0 c1 c2 d0 d1 d2
   go_wp2_with fail
   go_quiet (fail)
   go_wp2_with fail
   go_roundw
   case rel=>exact ⟨q+1,by omega,by go_num,HNX.out,TQ.out.keep (below_drewN br_ _)⟩
   case measure=>simp [intOf];omega
  ·obtain rfl:q=C.tiles.length:=by omega
   go_wp2_with fail
   go_ret
   exact ⟨rfl,TQ.out.below⟩
end Go.Proofs.YtmkiphadkmodnaaGreat
