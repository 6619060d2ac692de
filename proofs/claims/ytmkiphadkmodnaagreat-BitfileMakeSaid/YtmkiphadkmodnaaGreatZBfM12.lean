/- BfM, 12 -/
import Derived.Deep.RegionHeld3
import Derived.IntWalk
import Derived.Deep.RegionLaw
import Derived.Laws.MakeOwn
import Derived.Laws.EntriesVeiled
import Derived.Deep.DeepCutAuto
import Derived.Test.YtmkiphadkmodnaaGreatZBfM2
import Derived.Test.YtmkiphadkmodnaaGreatZBfM10
import Derived.Test.YtmkiphadkmodnaaGreatZBfM5
import Derived.Test.YtmkiphadkmodnaaGreatZBfM6
import Derived.Test.YtmkiphadkmodnaaGreatZBfM11
import Derived.Test.YtmkiphadkmodnaaGreatZBfM0
set_option linter.all false
set_option maxRecDepth 100000
set_option maxHeartbeats 8000000
namespace Go.Proofs.YtmkiphadkmodnaaGreat
open Go.RowKit
def Keeps1 (w w':World):Prop:=∀ g t cs,Blk w g t cs->t≠3->Blk w' g t cs
def TrkOut (W H T:Int) (c:Nat) (x y:Int) (k:Nat) (L:List Int) (base:Nat) (w:World) (e:Ending) (w':World):Prop :=
 ∃ A' c',e=.returned (.slice A' (k+T.toNat) c')∧w'.ownsRow base 3 1 (.slice A' (k+T.toNat) c') (k+T.toNat) (ints (L++trk W H T c x y T.toNat))∧Below base w w'∧Keeps1 w w'
theorem rhor_l (W H T x y:Int) (w:World) (base:Nat) (A:Option Addr) (k c:Nat) (L:List Int) (h:okA W H T) (hx:-100<=x∧x<=100) (hy:-100<=y∧y<=100) (hown:w.ownsRow base 3 1 (.slice A k c) k (ints L)) (hk:k<=1000) (hb:base<=w.heap.size) :
  Calls Tryz.prog 142 #[.agg #[.int .i64 W,.int .i64 H,.int .i64 T],.int .i64 x,.int .i64 y,.slice A k c] w (TrkOut W H T 3 x y k L base w):=by
 have hh:=h
 unfold okA at hh
 obtain ⟨n,hn⟩:∃ n:Nat,T=(n:Int):=⟨T.toNat,by omega⟩
 have hn2:n<=16:=by omega
 have hT:T.toNat=n:=by omega
 have HN:=hd_ hn
 obtain ⟨R,hR⟩:∃ R,TrkOut W H T 3 x y k L base w=R:=⟨_,rfl⟩
 rw [hR]
 have HR:=hd_ hR
 have HT:=hd_ hT
 have HO:=hd_ h
 have hb0:Below base w (w.alloc (.cells #[.int .i64 W,.int .i64 H,.int .i64 T] 23)):=br_.alloc hb _
 have hz0:Keeps1 w (w.alloc (.cells #[.int .i64 W,.int .i64 H,.int .i64 T] 23)):=fun g t cs hb _=>hb.alloc _
 have Z0:=hd_ hz0
 have hk0:Blk (w.alloc (.cells #[.int .i64 W,.int .i64 H,.int .i64 T] 23)) w.heap.size 23 #[.int .i64 W,.int .i64 H,.int .i64 T]:=Blk.made w _ _
 have ho0:=hown.alloc (.cells #[.int .i64 W,.int .i64 H,.int .i64 T] 23)
 have B0:=hd_ hb0
 have K0:=hd_ hk0
 have O0:=hd_ ho0
 clear hR hT hn h hown hb0 hk0 ho0 hz0
 go_enter Tryz.func142,Tryz.ntmps142
 go_wp2_with fail
 go_loopw [3,14] (fun v i wx=>∃ q:Nat,q<=n∧i=.int .i64 (q:Int)∧Below base w wx∧Keeps1 w wx∧Blk wx w.heap.size 23 #[.int .i64 W,.int .i64 H,.int .i64 T]∧wx.ownsRow base 3 1 v (k+q) (ints (L++trk W H T 3 x y q))) (fun _ i _=>n-(intOf i).toNat)
 case atStart=>exact ⟨0,by omega,rfl,B0.out,Z0.out,K0.out,by simpa [trk] using O0.out⟩
 case round =>
  clear B0 K0 O0 Z0
  obtain ⟨q,hq,rfl,hbb,hzz,hkk,hoo⟩:=hrel
  have ZZ:=hd_ hzz
  obtain ⟨AA,cc,rfl⟩:=own_slice hoo
  have BB:=hd_ hbb
  have KK:=hd_ hkk
  have OO:=hd_ hoo
  have k0:wr.cell? ⟨w.heap.size,0,none⟩=some (.int .i64 W):=hkk.cell 0
  have k1:wr.cell? ⟨w.heap.size,1,none⟩=some (.int .i64 H):=hkk.cell 1
  have k2:wr.cell? ⟨w.heap.size,2,none⟩=some (.int .i64 T):=hkk.cell 2
  have hs:base<=wr.heap.size:=by have:=hbb.size;omega
  clear hbb hkk hoo hzz
  by_cases hlt:q<n
  ·have hd:decide ((q:Int)<T)=true:=decide_eq_true (by rw [HN.out];omega)
   go_wp2_with fail
   refine (rhor_any _ _ _ _ _ _ _).mono ?_
   rintro e w1 ⟨rfl,hb1⟩
   have B1:=hd_ (BB.out.trans (hb1.mono hs))
   have K1:=hd_ (KK.out.keep hb1)
   have Z1:Hid (Keeps1 w w1):=hd_ (fun g t cs hb hne=>(ZZ.out g t cs hb hne).keep hb1)
   have O1:=hd_ (own_keep OO.out hb1)
   have hs1:base<=w1.heap.size:=by have:=hb1.size;omega
   clear hb1 k0 k1 k2
   obtain ⟨z,hz⟩:∃ z,nodeN W H T 3 x y (q:Int)=z:=⟨_,rfl⟩
   have HZ:=hd_ hz
   rw [hz]
   clear hz
   go_wp2_with (at_builtin;refine wpList_app_int rfl (.tmp 25) (.tmp 27) rfl base AA (k+q) cc _ rfl O1.out z rfl (by omega) hs1 ?_)
   intro A2 c2 w2 hown2 hg2
   have B2:=hd_ ((B1.out.alloc hs1 (.cells #[.int .i64 z] 3)).grown hg2 (by simp;omega) (fun j hj=>own_base O1.out hj))
   have K2:=hd_ ((K1.out.alloc (.cells #[.int .i64 z] 3)).grown hg2 (fun e=>own_other O1.out K1.out (by decide) e.symm))
   have Z2:Hid (Keeps1 w w2):=hd_ (fun g t cs hb hne=>((Z1.out g t cs hb hne).alloc (.cells #[.int .i64 z] 3)).grown hg2 (fun e=>own_other O1.out (Z1.out g t cs hb hne) (fun he=>hne he.symm) e.symm))
   have O2:=hd_ hown2
   clear hown2 hg2
   go_wp2_with fail
   go_roundw
   case rel=>exact ⟨q+1,by omega,by go_num,B2.out,Z2.out,K2.out,by rw [trk_succ,HZ.out];exact O2.out⟩
   case measure=>simp [intOf];omega
  ·obtain rfl:q=n:=by omega
   have hd:decide ((q:Int)<T)=false:=decide_eq_false (by rw [HN.out];omega)
   go_wp2_with fail
   rw [<- HR.out]
   exact ⟨AA,cc,by rw [HT.out];rfl,by rw [HT.out];exact OO.out,BB.out,ZZ.out⟩
theorem rver_l (W H T x y:Int) (w:World) (base:Nat) (A:Option Addr) (k c:Nat) (L:List Int) (h:okA W H T) (hx:-100<=x∧x<=100) (hy:-100<=y∧y<=100) (hown:w.ownsRow base 3 1 (.slice A k c) k (ints L)) (hk:k<=1000) (hb:base<=w.heap.size) :
  Calls Tryz.prog 141 #[.agg #[.int .i64 W,.int .i64 H,.int .i64 T],.int .i64 x,.int .i64 y,.slice A k c] w (TrkOut W H T 4 x y k L base w):=by
 have hh:=h
 unfold okA at hh
 obtain ⟨n,hn⟩:∃ n:Nat,T=(n:Int):=⟨T.toNat,by omega⟩
 have hn2:n<=16:=by omega
 have hT:T.toNat=n:=by omega
 have HN:=hd_ hn
 obtain ⟨R,hR⟩:∃ R,TrkOut W H T 4 x y k L base w=R:=⟨_,rfl⟩
 rw [hR]
 have HR:=hd_ hR
 have HT:=hd_ hT
 have HO:=hd_ h
 have hb0:Below base w (w.alloc (.cells #[.int .i64 W,.int .i64 H,.int .i64 T] 23)):=br_.alloc hb _
 have hz0:Keeps1 w (w.alloc (.cells #[.int .i64 W,.int .i64 H,.int .i64 T] 23)):=fun g t cs hb _=>hb.alloc _
 have Z0:=hd_ hz0
 have hk0:Blk (w.alloc (.cells #[.int .i64 W,.int .i64 H,.int .i64 T] 23)) w.heap.size 23 #[.int .i64 W,.int .i64 H,.int .i64 T]:=Blk.made w _ _
 have ho0:=hown.alloc (.cells #[.int .i64 W,.int .i64 H,.int .i64 T] 23)
 have B0:=hd_ hb0
 have K0:=hd_ hk0
 have O0:=hd_ ho0
 clear hR hT hn h hown hb0 hk0 ho0 hz0
 go_enter Tryz.func141,Tryz.ntmps141
 go_wp2_with fail
 go_loopw [3,14] (fun v i wx=>∃ q:Nat,q<=n∧i=.int .i64 (q:Int)∧Below base w wx∧Keeps1 w wx∧Blk wx w.heap.size 23 #[.int .i64 W,.int .i64 H,.int .i64 T]∧wx.ownsRow base 3 1 v (k+q) (ints (L++trk W H T 4 x y q))) (fun _ i _=>n-(intOf i).toNat)
 case atStart=>exact ⟨0,by omega,rfl,B0.out,Z0.out,K0.out,by simpa [trk] using O0.out⟩
 case round =>
  clear B0 K0 O0 Z0
  obtain ⟨q,hq,rfl,hbb,hzz,hkk,hoo⟩:=hrel
  have ZZ:=hd_ hzz
  obtain ⟨AA,cc,rfl⟩:=own_slice hoo
  have BB:=hd_ hbb
  have KK:=hd_ hkk
  have OO:=hd_ hoo
  have k0:wr.cell? ⟨w.heap.size,0,none⟩=some (.int .i64 W):=hkk.cell 0
  have k1:wr.cell? ⟨w.heap.size,1,none⟩=some (.int .i64 H):=hkk.cell 1
  have k2:wr.cell? ⟨w.heap.size,2,none⟩=some (.int .i64 T):=hkk.cell 2
  have hs:base<=wr.heap.size:=by have:=hbb.size;omega
  clear hbb hkk hoo hzz
  by_cases hlt:q<n
  ·have hd:decide ((q:Int)<T)=true:=decide_eq_true (by rw [HN.out];omega)
   go_wp2_with fail
   refine (rver_any _ _ _ _ _ _ _).mono ?_
   rintro e w1 ⟨rfl,hb1⟩
   have B1:=hd_ (BB.out.trans (hb1.mono hs))
   have K1:=hd_ (KK.out.keep hb1)
   have Z1:Hid (Keeps1 w w1):=hd_ (fun g t cs hb hne=>(ZZ.out g t cs hb hne).keep hb1)
   have O1:=hd_ (own_keep OO.out hb1)
   have hs1:base<=w1.heap.size:=by have:=hb1.size;omega
   clear hb1 k0 k1 k2
   obtain ⟨z,hz⟩:∃ z,nodeN W H T 4 x y (q:Int)=z:=⟨_,rfl⟩
   have HZ:=hd_ hz
   rw [hz]
   clear hz
   go_wp2_with (at_builtin;refine wpList_app_int rfl (.tmp 25) (.tmp 27) rfl base AA (k+q) cc _ rfl O1.out z rfl (by omega) hs1 ?_)
   intro A2 c2 w2 hown2 hg2
   have B2:=hd_ ((B1.out.alloc hs1 (.cells #[.int .i64 z] 3)).grown hg2 (by simp;omega) (fun j hj=>own_base O1.out hj))
   have K2:=hd_ ((K1.out.alloc (.cells #[.int .i64 z] 3)).grown hg2 (fun e=>own_other O1.out K1.out (by decide) e.symm))
   have Z2:Hid (Keeps1 w w2):=hd_ (fun g t cs hb hne=>((Z1.out g t cs hb hne).alloc (.cells #[.int .i64 z] 3)).grown hg2 (fun e=>own_other O1.out (Z1.out g t cs hb hne) (fun he=>hne he.symm) e.symm))
   have O2:=hd_ hown2
   clear hown2 hg2
   go_wp2_with fail
   go_roundw
   case rel=>exact ⟨q+1,by omega,by go_num,B2.out,Z2.out,K2.out,by rw [trk_succ,HZ.out];exact O2.out⟩
   case measure=>simp [intOf];omega
  ·obtain rfl:q=n:=by omega
   have hd:decide ((q:Int)<T)=false:=decide_eq_false (by rw [HN.out];omega)
   go_wp2_with fail
   rw [<- HR.out]
   exact ⟨AA,cc,by rw [HT.out];rfl,by rw [HT.out];exact OO.out,BB.out,ZZ.out⟩
end Go.Proofs.YtmkiphadkmodnaaGreat
namespace Go.Proofs.YtmkiphadkmodnaaGreat
open Go.RowKit
def CrnOut (W H T x y t:Int) (w:World) (e:Ending) (w':World):Prop :=
 ∃ A c,e=.returned (.slice A (hereTo W H T x y t 4).length c)∧w'.ownsRow w.heap.size 3 1 (.slice A (hereTo W H T x y t 4).length c) (hereTo W H T x y t 4).length (ints (hereTo W H T x y t 4))∧Below w.heap.size w w'
theorem crn_out {W H T x y t:Int} {w w':World} {A:Option Addr} {c k:Nat} {L:List Int} (hL:hereTo W H T x y t 4=L) (hk:L.length=k) (ho:w'.ownsRow w.heap.size 3 1 (.slice A k c) k (ints L)) (hb:Below w.heap.size w w'):CrnOut W H T x y t w (.returned (.slice A k c)) w':=by
 subst hk
 refine ⟨A,c,?_,?_,hb⟩
 ·rw [hL]
 ·rw [hL];exact ho
structure CrnS (W H T x y t:Int) (w wx:World) (i:Nat) (A:Option Addr) (k c:Nat) (L:List Int):Prop where
 l:hereTo W H T x y t i=L
 n:L.length=k
 b:Below w.heap.size w wx
 a:Blk wx w.heap.size 23 #[.int .i64 W,.int .i64 H,.int .i64 T]
 o:wx.ownsRow w.heap.size 3 1 (.slice A k c) k (ints L)
theorem CrnS.keep {W H T x y t:Int} {w wx wy:World} {i k c:Nat} {A:Option Addr} {L:List Int} (h:CrnS W H T x y t w wx i A k c L) (hb:Below wx.heap.size wx wy):CrnS W H T x y t w wy i A k c L:=⟨h.l,h.n,bt_ h.b hb,h.a.keep hb,own_keep h.o hb⟩
theorem CrnS.no {W H T x y t:Int} {w wx:World} {i k c:Nat} {A:Option Addr} {L:List Int} (h:CrnS W H T x y t w wx i A k c L) (he:nodeE W H T (coC i) (coX x i) (coY y i) t=1):CrnS W H T x y t w wx (i+1) A k c L:=⟨by rw [hereTo,if_neg (by rw [he];decide),List.append_nil];exact h.l,h.n,h.b,h.a,h.o⟩
theorem CrnS.yes {W H T x y t z:Int} {w wx w3:World} {i k c c':Nat} {A A':Option Addr} {L:List Int} (h:CrnS W H T x y t w wx i A k c L) (he:nodeE W H T (coC i) (coX x i) (coY y i) t=0) (hz:nodeN W H T (coC i) (coX x i) (coY y i) t=z)
  (ho:w3.ownsRow w.heap.size 3 1 (.slice A' (k+1) c') (k+1) (ints (L++[z]))) (hg:(wx.alloc (.cells #[.int .i64 z] 3)).grownBy w3 (Value.slice A k c).ownBlock):CrnS W H T x y t w w3 (i+1) A' (k+1) c' (L++[z]) :=
 ⟨by rw [hereTo,if_pos he,h.l,hz],by rw [List.length_append,h.n];rfl,(h.b.alloc h.b.size _).grown hg (by have:=h.b.size;simp;omega) (fun j hj=>own_base h.o hj),(h.a.alloc _).grown hg (fun e=>own_other h.o h.a (by decide) e.symm),ho⟩
theorem corner_any (W H T x y t:Int) (w:World) (hx:-100<=x∧x<=100) (hy:-100<=y∧y<=100) :
  Calls Tryz.prog 143 #[.agg #[.int .i64 W,.int .i64 H,.int .i64 T],.int .i64 x,.int .i64 y,.int .i64 t] w (CrnOut W H T x y t w):=by
 obtain ⟨R,hR⟩:∃ R,CrnOut W H T x y t w=R:=⟨_,rfl⟩
 rw [hR]
 have HR:=hd_ hR
 have S0:=hd_ (show CrnS W H T x y t w (w.alloc (.cells #[.int .i64 W,.int .i64 H,.int .i64 T] 23)) 0 none 0 0 [] from ⟨rfl,rfl,bn_ _ _,Blk.made w _ _,World.ownsRow_nil _ _ _ _⟩)
 clear hR
 go_enter Tryz.func143,Tryz.ntmps143
 go_wp2_with fail
 refine (rhor_any _ _ _ _ _ _ _).mono ?_
 rintro e wa ⟨rfl,hb1⟩
 have K0:=hd_ (S0.out.keep hb1)
 have k0:=K0.out.a.cell 0
 have k1:=K0.out.a.cell 1
 have k2:=K0.out.a.cell 2
 have hs:=K0.out.b.size
 clear hb1 S0
 go_upto_if 28 with (fail)
 go_cut [9,10,11] (fun v9 _ _ wx=>∃ A m c L,v9=.slice A m c∧m<=1∧CrnS W H T x y t w wx 1 A m c L)
 case first =>
  obtain ⟨z,hz⟩:∃ z,nodeN W H T 3 (x-1) y t=z:=⟨_,rfl⟩
  have HZ:=hd_ hz
  rw [hz]
  rcases nodeE_01 W H T 3 (x-1) y t with he|he <;> rw [he] <;> have HE:=hd_ he <;> clear he hz
  ·go_wp2_with (at_builtin;refine wpList_app_int rfl (.tmp 29) (.tmp 31) rfl w.heap.size none 0 0 [] rfl K0.out.o z rfl (by omega) hs ?_)
   intro A c w3 ho hg
   have HS:=hd_ (K0.out.yes HE.out HZ.out ho hg)
   clear ho hg
   go_wp2_with fail
   go_meet
   exact ⟨_,_,_,_,rfl,by omega,HS.out⟩
  ·go_wp2_with fail
   go_meet
   exact ⟨_,_,_,_,rfl,by omega,K0.out.no HE.out⟩
 case rest =>
  obtain ⟨A1,m1,c1,L1,rfl,hm1,h⟩:=hcut
  have S1:=hd_ h
  have j0:=h.a.cell 0
  have j1:=h.a.cell 1
  have j2:=h.a.cell 2
  clear h k0 k1 k2 hs K0
  go_wp2_with fail
  refine (rhor_any _ _ _ _ _ _ _).mono ?_
  rintro e wa ⟨rfl,hb1⟩
  have K1:=hd_ (S1.out.keep hb1)
  have k0:=K1.out.a.cell 0
  have k1:=K1.out.a.cell 1
  have k2:=K1.out.a.cell 2
  have hs:=K1.out.b.size
  clear hb1 S1
  go_upto_if 42 with (fail)
  go_cut [9,12,13] (fun v9 _ _ wx=>∃ A m c L,v9=.slice A m c∧m<=2∧CrnS W H T x y t w wx 2 A m c L)
  case first =>
   obtain ⟨z,hz⟩:∃ z,nodeN W H T 3 x y t=z:=⟨_,rfl⟩
   have HZ:=hd_ hz
   rw [hz]
   rcases nodeE_01 W H T 3 x y t with he|he <;> rw [he] <;> have HE:=hd_ he <;> clear he hz
   ·go_wp2_with (at_builtin;refine wpList_app_int rfl (.tmp 43) (.tmp 45) rfl w.heap.size A1 m1 c1 L1 rfl K1.out.o z rfl (by omega) hs ?_)
    intro A c w3 ho hg
    have HS:=hd_ (K1.out.yes HE.out HZ.out ho hg)
    clear ho hg
    go_wp2_with fail
    go_meet
    exact ⟨_,_,_,_,rfl,by omega,HS.out⟩
   ·go_wp2_with fail
    go_meet
    exact ⟨_,_,_,_,rfl,by omega,K1.out.no HE.out⟩
  case rest =>
   obtain ⟨A2,m2,c2,L2,rfl,hm2,h⟩:=hcut
   have S2:=hd_ h
   have j0:=h.a.cell 0
   have j1:=h.a.cell 1
   have j2:=h.a.cell 2
   clear h k0 k1 k2 hs K1
   go_wp2_with fail
   refine (rver_any _ _ _ _ _ _ _).mono ?_
   rintro e wa ⟨rfl,hb1⟩
   have K2:=hd_ (S2.out.keep hb1)
   have k0:=K2.out.a.cell 0
   have k1:=K2.out.a.cell 1
   have k2:=K2.out.a.cell 2
   have hs:=K2.out.b.size
   clear hb1 S2
   go_upto_if 57 with (fail)
   go_cut [9,14,15] (fun v9 _ _ wx=>∃ A m c L,v9=.slice A m c∧m<=3∧CrnS W H T x y t w wx 3 A m c L)
   case first =>
    obtain ⟨z,hz⟩:∃ z,nodeN W H T 4 x (y-1) t=z:=⟨_,rfl⟩
    have HZ:=hd_ hz
    rw [hz]
    rcases nodeE_01 W H T 4 x (y-1) t with he|he <;> rw [he] <;> have HE:=hd_ he <;> clear he hz
    ·go_wp2_with (at_builtin;refine wpList_app_int rfl (.tmp 58) (.tmp 60) rfl w.heap.size A2 m2 c2 L2 rfl K2.out.o z rfl (by omega) hs ?_)
     intro A c w3 ho hg
     have HS:=hd_ (K2.out.yes HE.out HZ.out ho hg)
     clear ho hg
     go_wp2_with fail
     go_meet
     exact ⟨_,_,_,_,rfl,by omega,HS.out⟩
    ·go_wp2_with fail
     go_meet
     exact ⟨_,_,_,_,rfl,by omega,K2.out.no HE.out⟩
   case rest =>
    obtain ⟨A3,m3,c3,L3,rfl,hm3,h⟩:=hcut
    have S3:=hd_ h
    have j0:=h.a.cell 0
    have j1:=h.a.cell 1
    have j2:=h.a.cell 2
    clear h k0 k1 k2 hs K2
    go_wp2_with fail
    refine (rver_any _ _ _ _ _ _ _).mono ?_
    rintro e wa ⟨rfl,hb1⟩
    have K3:=hd_ (S3.out.keep hb1)
    have k0:=K3.out.a.cell 0
    have k1:=K3.out.a.cell 1
    have k2:=K3.out.a.cell 2
    have hs:=K3.out.b.size
    clear hb1 S3
    go_upto_if 71 with (fail)
    go_cut [9,16,17] (fun v9 _ _ wx=>∃ A m c L,v9=.slice A m c∧m<=4∧CrnS W H T x y t w wx 4 A m c L)
    case first =>
     obtain ⟨z,hz⟩:∃ z,nodeN W H T 4 x y t=z:=⟨_,rfl⟩
     have HZ:=hd_ hz
     rw [hz]
     rcases nodeE_01 W H T 4 x y t with he|he <;> rw [he] <;> have HE:=hd_ he <;> clear he hz
     ·go_wp2_with (at_builtin;refine wpList_app_int rfl (.tmp 72) (.tmp 74) rfl w.heap.size A3 m3 c3 L3 rfl K3.out.o z rfl (by omega) hs ?_)
      intro A c w3 ho hg
      have HS:=hd_ (K3.out.yes HE.out HZ.out ho hg)
      clear ho hg
      go_wp2_with fail
      go_meet
      exact ⟨_,_,_,_,rfl,by omega,HS.out⟩
     ·go_wp2_with fail
      go_meet
      exact ⟨_,_,_,_,rfl,by omega,K3.out.no HE.out⟩
    case rest =>
     obtain ⟨A4,m4,c4,L4,rfl,hm4,h⟩:=hcut
     have S4:=hd_ h
     clear h k0 k1 k2 hs K3
     go_wp2_with fail
     rw [<- HR.out]
     exact crn_out S4.out.l S4.out.n S4.out.o S4.out.b
def RowOut (L:List Int) (w:World) (e:Ending) (w':World):Prop :=
 ∃ A c,e=.returned (.slice A L.length c)∧w'.ownsRow w.heap.size 3 1 (.slice A L.length c) L.length (ints L)∧Below w.heap.size w w'
theorem row_mk {L:List Int} {w w':World} {A:Option Addr} {c k:Nat} (hk:L.length=k) (ho:w'.ownsRow w.heap.size 3 1 (.slice A k c) k (ints L)) (hb:Below w.heap.size w w'):RowOut L w (.returned (.slice A k c)) w':=by
 subst hk
 exact ⟨A,c,rfl,ho,hb⟩
theorem below_drew1 {B:Nat} {w w':World} (h:Below B w.drew w'):Below B w w':=⟨h.os,h.tape,h.output,h.size,h.block⟩
abbrev SW (W H T n:Int) (w:World) (R:Ending->World->Prop):Prop:=Calls Tryz.prog 129 #[.agg #[.int .i64 W,.int .i64 H,.int .i64 T],.int .i64 n] w R
theorem sw_one (W H T n x y t K X Y:Int) (c:Nat) (w:World) (h:okA W H T) (hK:whK W H T n=K) (hX:whX W H T n=x) (hY:whY W H T n=y) (hT:whT W H T n=t) (hx:0<=x∧x<=64) (hy:0<=y∧y<=64)
  (hc:(K=2∧t=0)∧c=3∧x=X∧y=Y∨(K=2∧t=1)∧c=4∧x+1=X∧y=Y∨(K=2∧t=2)∧c=3∧x=X∧y+1=Y∨(K=2∧t=3)∧c=4∧x=X∧y=Y ∨
   (K=3∧x<W)∧c=3∧x=X∧0=Y∨(K=3∧W<=x∧x<2*W)∧c=3∧x-W=X∧H=Y∨(K=3∧W<=x∧2*W<=x∧x<2*W+H)∧c=4∧0=X∧x-2*W=Y∨(K=3∧W<=x∧2*W<=x∧2*W+H<=x)∧c=4∧W=X∧x-2*W-H=Y) :
  SW W H T n w (RowOut (trk W H T c X Y T.toNat) w):=by
 obtain ⟨R,hR⟩:∃ R,RowOut (trk W H T c X Y T.toNat) w=R:=⟨_,rfl⟩
 unfold SW
 rw [hR]
 have HR:=hd_ hR
 clear hR
 rcases hc with ⟨⟨rfl,h0⟩,rfl,rfl,rfl⟩|⟨⟨rfl,h0⟩,rfl,rfl,rfl⟩|⟨⟨rfl,h0⟩,rfl,rfl,rfl⟩|⟨⟨rfl,h0⟩,rfl,rfl,rfl⟩|⟨⟨rfl,h0⟩,rfl,rfl,rfl⟩|⟨⟨rfl,h0,h1⟩,rfl,rfl,rfl⟩|⟨⟨rfl,h0,h1,h2⟩,rfl,rfl,rfl⟩|⟨⟨rfl,h0,h1,h2⟩,rfl,rfl,rfl⟩
 all_goals
  have hh:=h
  unfold okA at hh
  have HO:=hd_ h
  have HK:=hd_ hK
  have HX:=hd_ hX
  have HY:=hd_ hY
  have HT:=hd_ hT
  have Q0:=hd_ (bn_ w (.cells #[.int .i64 W,.int .i64 H,.int .i64 T] 23))
  have B0:=hd_ (Box3.new w (.int .i64 W) (.int .i64 H) (.int .i64 T) 23)
  have K0:=hd_ (Blk.made w 23 #[.int .i64 W,.int .i64 H,.int .i64 T])
  have on0:=fun (w':World)=>hd_ (show w'.ownsRow w.heap.size 3 1 (.slice none 0 0) 0 (ints []) from World.ownsRow_nil _ _ _ _)
  clear h hK hX hY hT
  go_enter Tryz.func129,Tryz.ntmps129
  go_wp2_with fail
  refine (rwhat_any _ _ _ _ _).mono ?_
  rintro e w1 ⟨rfl,hb1⟩
  rw [HK.out,HX.out,HY.out,HT.out]
  have Q1:=hd_ (bt_ Q0.out hb1)
  have B1:=hd_ (Box3.below B0.out hb1)
  have K1:=hd_ (K0.out.keep hb1)
  have hs1:w.heap.size<=w1.heap.size:=Q1.out.size
  have hz1:w.heap.size<w1.heap.size:=B1.out.lt
  have k0:w1.cell? ⟨w.heap.size,0,none⟩=some (.int .i64 W):=B1.out.c0
  have k1:w1.cell? ⟨w.heap.size,1,none⟩=some (.int .i64 H):=B1.out.c1
  have k2:w1.cell? ⟨w.heap.size,2,none⟩=some (.int .i64 T):=B1.out.c2
  clear hb1
  go_wp2_with fail
  first|refine (rhor_l W H T _ _ _ w.heap.size none 0 0 [] HO.out (by omega) (by omega) (on0 _).out (by omega) hs1).mono ?_|refine (rver_l W H T _ _ _ w.heap.size none 0 0 [] HO.out (by omega) (by omega) (on0 _).out (by omega) hs1).mono ?_
  rintro e w2 ⟨A2,c2,rfl,ho2,hb2,-⟩
  have O2:=hd_ ho2
  have Q2:=hd_ (Q1.out.trans hb2)
  clear ho2 hb2 k0 k1 k2
  go_wp2_with fail
  rw [<- HR.out]
  exact row_mk (by simp [trk_length]) (by simpa using O2.out) Q2.out
theorem own_low {w:World} {base base':Nat} {e:TypeId} {size n:Nat} {v:Value} {xs:List Value} (h:w.ownsRow base e size v n xs) (hb:base'<=base):w.ownsRow base' e size v n xs:=by
 refine ⟨h.1,?_⟩
 rcases h.2 with h2|⟨g,cap,cur,hv,hg,hh⟩
 ·exact .inl h2
 ·exact .inr ⟨g,cap,cur,hv,Nat.le_trans hb hg,hh⟩
theorem sw_two (W H T n x y t K X Y:Int) (w:World) (h:okA W H T) (hK:whK W H T n=K) (hX:whX W H T n=x) (hY:whY W H T n=y) (hT:whT W H T n=t) (hx:0<=x∧x<=64) (hy:0<=y∧y<=64) (hc:K=4∧x+1=X∧y=Y∨K=5∧x=X∧y+1=Y) :
  SW W H T n w (RowOut (hereTo W H T x y t 4++hereTo W H T X Y t 4) w):=by
 obtain ⟨R,hR⟩:∃ R,RowOut (hereTo W H T x y t 4++hereTo W H T X Y t 4) w=R:=⟨_,rfl⟩
 unfold SW
 rw [hR]
 have HR:=hd_ hR
 have hl1:=hereTo_len W H T x y t 4
 have hl2:=hereTo_len W H T X Y t 4
 obtain ⟨L2,hL2⟩:∃ L2,hereTo W H T X Y t 4=L2:=⟨_,rfl⟩
 have HL2:=hd_ hL2
 rw [hL2] at hl2
 clear hR hL2
 rcases hc with ⟨rfl,rfl,rfl⟩|⟨rfl,rfl,rfl⟩
 all_goals
  have hh:=h
  unfold okA at hh
  have HO:=hd_ h
  have HK:=hd_ hK
  have HX:=hd_ hX
  have HY:=hd_ hY
  have HT:=hd_ hT
  have Q0:=hd_ (bn_ w (.cells #[.int .i64 W,.int .i64 H,.int .i64 T] 23))
  have B0:=hd_ (Box3.new w (.int .i64 W) (.int .i64 H) (.int .i64 T) 23)
  have K0:=hd_ (Blk.made w 23 #[.int .i64 W,.int .i64 H,.int .i64 T])
  have on0:=fun (w':World)=>hd_ (show w'.ownsRow w.heap.size 3 1 (.slice none 0 0) 0 (ints []) from World.ownsRow_nil _ _ _ _)
  have hl1:=hereTo_len W H T x y t 4
  have hl2:=hereTo_len W H T (x+1) y t 4
  clear h hK hX hY hT
  go_enter Tryz.func129,Tryz.ntmps129
  go_wp2_with fail
  refine (rwhat_any _ _ _ _ _).mono ?_
  rintro e w1 ⟨rfl,hb1⟩
  rw [HK.out,HX.out,HY.out,HT.out]
  have Q1:=hd_ (bt_ Q0.out hb1)
  have B1:=hd_ (Box3.below B0.out hb1)
  have K1:=hd_ (K0.out.keep hb1)
  have hs1:w.heap.size<=w1.heap.size:=Q1.out.size
  have hz1:w.heap.size<w1.heap.size:=B1.out.lt
  have k0:w1.cell? ⟨w.heap.size,0,none⟩=some (.int .i64 W):=B1.out.c0
  have k1:w1.cell? ⟨w.heap.size,1,none⟩=some (.int .i64 H):=B1.out.c1
  have k2:w1.cell? ⟨w.heap.size,2,none⟩=some (.int .i64 T):=B1.out.c2
  clear hb1
  go_wp2_with fail
  refine (corner_any W H T _ _ _ _ (by omega) (by omega)).mono ?_
  rintro e w2 ⟨A2,c2,rfl,ho2,hb2⟩
  have O2:=hd_ ho2
  have Q2:=hd_ (Q1.out.trans (hb2.mono hs1))
  have B2:=hd_ (Box3.below B1.out hb2)
  have hs2:w1.heap.size<=w2.heap.size:=hb2.size
  clear ho2 hb2 k0 k1 k2
  obtain ⟨L1,hL1⟩:∃ L1,hereTo W H T x y t 4=L1:=⟨_,rfl⟩
  have HL1:=hd_ hL1
  rw [hL1] at O2 hl1 ⊢
  clear hL1
  have k0:w2.cell? ⟨w.heap.size,0,none⟩=some (.int .i64 W):=B2.out.c0
  have k1:w2.cell? ⟨w.heap.size,1,none⟩=some (.int .i64 H):=B2.out.c1
  have k2:w2.cell? ⟨w.heap.size,2,none⟩=some (.int .i64 T):=B2.out.c2
  go_wp2_with (at_builtin;first|refine wpList_app_ints rfl (.tmp 146) (.tmp 151) rfl w2.heap.size none 0 0 [] rfl (World.ownsRow_nil _ _ _ _) A2 L1.length c2 L1 rfl (Rd.of_own O2.out) (by omega) (Nat.le_refl _) ?_|refine wpList_app_ints rfl (.tmp 21) (.tmp 26) rfl w2.heap.size none 0 0 [] rfl (World.ownsRow_nil _ _ _ _) A2 L1.length c2 L1 rfl (Rd.of_own O2.out) (by omega) (Nat.le_refl _) ?_)
  intro A3 c3 w3 hown3 hg3
  try simp only [Nat.zero_add,List.nil_append] at hown3
  have b3:Below w2.heap.size w2 w3:=br_.grown hg3 (Nat.le_refl _) (by simp [Value.ownBlock])
  have O3:=hd_ hown3
  have Q3:=hd_ (bt_ Q2.out b3)
  have B3:=hd_ (Box3.below B2.out b3)
  have hs3:w2.heap.size<=w3.heap.size:=b3.size
  clear hown3 hg3 b3 k0 k1 k2
  have k0:w3.cell? ⟨w.heap.size,0,none⟩=some (.int .i64 W):=B3.out.c0
  have k1:w3.cell? ⟨w.heap.size,1,none⟩=some (.int .i64 H):=B3.out.c1
  have k2:w3.cell? ⟨w.heap.size,2,none⟩=some (.int .i64 T):=B3.out.c2
  go_wp2_with fail
  refine (corner_any W H T _ _ _ _ (by omega) (by omega)).mono ?_
  rintro e w4 ⟨A4,c4,rfl,ho4,hb4⟩
  have O4:=hd_ ho4
  have O34:=hd_ (own_keep O3.out hb4)
  have Q4:=hd_ (bt_ Q3.out hb4)
  have hs4:w3.heap.size<=w4.heap.size:=hb4.size
  clear ho4 hb4 k0 k1 k2
  rw [HL2.out] at O4 ⊢
  go_wp2_with (at_builtin;first|refine wpList_app_ints rfl (.tmp 153) (.tmp 159) rfl w2.heap.size A3 L1.length c3 L1 rfl O34.out A4 L2.length c4 L2 rfl (Rd.of_own O4.out) (by omega) (by omega) ?_|refine wpList_app_ints rfl (.tmp 28) (.tmp 34) rfl w2.heap.size A3 L1.length c3 L1 rfl O34.out A4 L2.length c4 L2 rfl (Rd.of_own O4.out) (by omega) (by omega) ?_)
  intro A5 c5 w5 hown5 hg5
  have O5:=hd_ hown5
  have Q5:=hd_ (Q4.out.grown hg5 (by omega) (fun j hj=>by have:=own_base O34.out hj;omega))
  clear hown5 hg5
  go_wp2_with fail
  rw [<- HR.out,HL1.out,HL2.out]
  exact row_mk (by simp) (own_low (by have:=O5.out;simpa using this) (by omega)) Q5.out
theorem sw_out (W H T n x y t:Int) (w:World) (h:okA W H T) (hK:whK W H T n=1) (hX:whX W H T n=x) (hY:whY W H T n=y) (hT:whT W H T n=t) (hx:0<=x∧x<=64) (hy:0<=y∧y<=64) :
  SW W H T n w (RowOut (trk W H T 3 x y T.toNat++trk W H T 3 x (y+1) T.toNat++trk W H T 4 x y T.toNat++trk W H T 4 (x+1) y T.toNat) w):=by
 have hh:=h
 unfold okA at hh
 obtain ⟨R,hR⟩:∃ R,RowOut (trk W H T 3 x y T.toNat++trk W H T 3 x (y+1) T.toNat++trk W H T 4 x y T.toNat++trk W H T 4 (x+1) y T.toNat) w=R:=⟨_,rfl⟩
 unfold SW
 rw [hR]
 have HR:=hd_ hR
 have HO:=hd_ h
 have HK:=hd_ hK
 have HX:=hd_ hX
 have HY:=hd_ hY
 have HT:=hd_ hT
 have Q0:=hd_ (bn_ w (.cells #[.int .i64 W,.int .i64 H,.int .i64 T] 23))
 have B0:=hd_ (Box3.new w (.int .i64 W) (.int .i64 H) (.int .i64 T) 23)
 have K0:=hd_ (Blk.made w 23 #[.int .i64 W,.int .i64 H,.int .i64 T])
 have on0:=fun (w':World)=>hd_ (show w'.ownsRow w.heap.size 3 1 (.slice none 0 0) 0 (ints []) from World.ownsRow_nil _ _ _ _)
 have e1:IntKind.i64.wrap (x+1)=x+1:=IntWalk.i64_in _ (by omega)
 have e2:IntKind.i64.wrap (y+1)=y+1:=IntWalk.i64_in _ (by omega)
 clear hR h hK hX hY hT
 go_enter Tryz.func129,Tryz.ntmps129
 go_wp2_with fail
 refine (rwhat_any _ _ _ _ _).mono ?_
 rintro e w1 ⟨rfl,hb1⟩
 rw [HK.out,HX.out,HY.out,HT.out]
 have Q1:=hd_ (bt_ Q0.out hb1)
 have B1:=hd_ (Box3.below B0.out hb1)
 have K1:=hd_ (K0.out.keep hb1)
 have hs1:w.heap.size<=w1.heap.size:=Q1.out.size
 have hz1:w.heap.size<w1.heap.size:=B1.out.lt
 have k0:w1.cell? ⟨w.heap.size,0,none⟩=some (.int .i64 W):=B1.out.c0
 have k1:w1.cell? ⟨w.heap.size,1,none⟩=some (.int .i64 H):=B1.out.c1
 have k2:w1.cell? ⟨w.heap.size,2,none⟩=some (.int .i64 T):=B1.out.c2
 clear hb1
 go_wp2_with fail
 go_region_held3 (fun w'=>w'.cell? ⟨w.heap.size,0,none⟩=some (.int .i64 W)∧w'.cell? ⟨w.heap.size,1,none⟩=some (.int .i64 H)∧w'.cell? ⟨w.heap.size,2,none⟩=some (.int .i64 T)) (go_keep) ((first|(go_at_call 142;(with_reducible refine (rhor_l W H T x y _ w.heap.size none (0) 0 (([]:List Int)) HO.out ?_ ?_ ?_ ?_ ?_).mono ?_);(omega);(omega);(exact (on0 _).out);(omega);(exact hs1);rintro e w2 ⟨A2,c2,rfl,ho,hb,hkp⟩;simp only [Nat.zero_add,List.nil_append] at ho;have O2:=hd_ ho;have Q2:=hd_ (Q1.out.trans (below_drew1 hb));have K2:=hd_ (hkp _ _ _ K1.out (by decide));have hs2:w.heap.size<=w2.heap.size:=Q2.out.size;have q20:w2.cell? ⟨w.heap.size,0,none⟩=some (.int .i64 W):=K2.out.cell 0;have q21:w2.cell? ⟨w.heap.size,1,none⟩=some (.int .i64 H):=K2.out.cell 1;have q22:w2.cell? ⟨w.heap.size,2,none⟩=some (.int .i64 T):=K2.out.cell 2;clear ho hb hkp)|(go_at_call 142;(with_reducible refine (rhor_l W H T x (y+1) _ w.heap.size A2 (T.toNat) c2 (trk W H T 3 x y T.toNat) HO.out ?_ ?_ ?_ ?_ ?_).mono ?_);(omega);(omega);(exact O2.out);(omega);(exact hs2);rintro e w3 ⟨A3,c3,rfl,ho,hb,hkp⟩;have O3:=hd_ ho;have Q3:=hd_ (Q2.out.trans (hb));have K3:=hd_ (hkp _ _ _ K2.out (by decide));have hs3:w.heap.size<=w3.heap.size:=Q3.out.size;have q30:w3.cell? ⟨w.heap.size,0,none⟩=some (.int .i64 W):=K3.out.cell 0;have q31:w3.cell? ⟨w.heap.size,1,none⟩=some (.int .i64 H):=K3.out.cell 1;have q32:w3.cell? ⟨w.heap.size,2,none⟩=some (.int .i64 T):=K3.out.cell 2;clear ho hb hkp)|(go_at_call 141;(with_reducible refine (rver_l W H T x y _ w.heap.size A3 (T.toNat+T.toNat) c3 (trk W H T 3 x y T.toNat++trk W H T 3 x (y+1) T.toNat) HO.out ?_ ?_ ?_ ?_ ?_).mono ?_);(omega);(omega);(exact O3.out);(omega);(exact hs3);rintro e w4 ⟨A4,c4,rfl,ho,hb,hkp⟩;have O4:=hd_ ho;have Q4:=hd_ (Q3.out.trans (hb));have K4:=hd_ (hkp _ _ _ K3.out (by decide));have hs4:w.heap.size<=w4.heap.size:=Q4.out.size;have q40:w4.cell? ⟨w.heap.size,0,none⟩=some (.int .i64 W):=K4.out.cell 0;have q41:w4.cell? ⟨w.heap.size,1,none⟩=some (.int .i64 H):=K4.out.cell 1;have q42:w4.cell? ⟨w.heap.size,2,none⟩=some (.int .i64 T):=K4.out.cell 2;clear ho hb hkp)|(go_at_call 141;(with_reducible refine (rver_l W H T (x+1) y _ w.heap.size A4 (T.toNat+T.toNat+T.toNat) c4 (trk W H T 3 x y T.toNat++trk W H T 3 x (y+1) T.toNat++trk W H T 4 x y T.toNat) HO.out ?_ ?_ ?_ ?_ ?_).mono ?_);(omega);(omega);(exact O4.out);(omega);(exact hs4);rintro e w5 ⟨A5,c5,rfl,ho,hb,hkp⟩;have O5:=hd_ ho;have Q5:=hd_ (Q4.out.trans (hb));have K5:=hd_ (hkp _ _ _ K4.out (by decide));have hs5:w.heap.size<=w5.heap.size:=Q5.out.size;have q50:w5.cell? ⟨w.heap.size,0,none⟩=some (.int .i64 W):=K5.out.cell 0;have q51:w5.cell? ⟨w.heap.size,1,none⟩=some (.int .i64 H):=K5.out.cell 1;have q52:w5.cell? ⟨w.heap.size,2,none⟩=some (.int .i64 T):=K5.out.cell 2;clear ho hb hkp)))
 go_wp2_with fail
 rw [<- HR.out]
 exact row_mk (by simp only [List.length_append,trk_length]) O5.out Q5.out
end Go.Proofs.YtmkiphadkmodnaaGreat
namespace Go.Proofs.YtmkiphadkmodnaaGreat
open Go.RowKit
theorem rsw_any (W H T n:Int) (w:World) (hN:isN W H T n):SW W H T n w (RowOut (swL W H T n) w):=by
 have h:=hN.1
 have hh:=h
 unfold okA at hh
 obtain ⟨v1,v2,v3,v4,-⟩:=wh_yes hN
 obtain ⟨bx,by_,bt,-⟩:=wh_bd hN
 obtain ⟨hk,hin,-⟩:=what_nodeAt hN
 obtain ⟨⟨b1,b2⟩,⟨b3,b4⟩,b5,b6⟩:=hin
 rw [v2] at bx
 rw [v3] at by_
 unfold swL
 rcases lt5 hk with e|e|e|e|e <;> rw [e] at b2 b4 b6 v1 <;> simp only [gw,gh,gd] at b2 b4 b6
 ·rw [if_pos e]
  exact sw_out W H T n _ _ _ w h v1 v2 v3 v4 bx by_
 ·rw [if_neg (by omega),if_pos e]
  rcases (show wt W H T n=0∨wt W H T n=1∨wt W H T n=2∨wt W H T n=3 by omega) with t|t|t|t
  ·rw [t];exact sw_one W H T n _ _ _ 2 _ _ 3 w h v1 v2 v3 (v4.trans t) bx by_ (.inl ⟨⟨rfl,rfl⟩,rfl,rfl,rfl⟩)
  ·rw [t];exact sw_one W H T n _ _ _ 2 _ _ 4 w h v1 v2 v3 (v4.trans t) bx by_ (.inr (.inl ⟨⟨rfl,rfl⟩,rfl,rfl,rfl⟩))
  ·rw [t];exact sw_one W H T n _ _ _ 2 _ _ 3 w h v1 v2 v3 (v4.trans t) bx by_ (.inr (.inr (.inl ⟨⟨rfl,rfl⟩,rfl,rfl,rfl⟩)))
  ·rw [t];exact sw_one W H T n _ _ _ 2 _ _ 4 w h v1 v2 v3 (v4.trans t) bx by_ (.inr (.inr (.inr (.inl ⟨⟨rfl,rfl⟩,rfl,rfl,rfl⟩))))
 ·rw [if_neg (by omega),if_neg (by omega),if_pos e]
  unfold brC brX brY
  by_cases c1:wx W H T n<W
  ·rw [if_pos (by omega),if_pos c1,if_pos c1]
   exact sw_one W H T n _ _ _ 3 _ _ 3 w h v1 v2 v3 v4 bx by_ (.inr (.inr (.inr (.inr (.inl ⟨⟨rfl,c1⟩,rfl,rfl,rfl⟩)))))
  ·by_cases c2:wx W H T n<2*W
   ·rw [if_pos c2,if_neg c1,if_pos c2,if_neg c1,if_pos c2]
    exact sw_one W H T n _ _ _ 3 _ _ 3 w h v1 v2 v3 v4 bx by_ (.inr (.inr (.inr (.inr (.inr (.inl ⟨⟨rfl,by omega,c2⟩,rfl,rfl,rfl⟩))))))
   ·by_cases c3:wx W H T n<2*W+H
    ·rw [if_neg c2,if_neg c1,if_neg c2,if_pos c3,if_neg c1,if_neg c2,if_pos c3]
     exact sw_one W H T n _ _ _ 3 _ _ 4 w h v1 v2 v3 v4 bx by_ (.inr (.inr (.inr (.inr (.inr (.inr (.inl ⟨⟨rfl,by omega,by omega,c3⟩,rfl,rfl,rfl⟩)))))))
    ·rw [if_neg c2,if_neg c1,if_neg c2,if_neg c3,if_neg c1,if_neg c2,if_neg c3]
     exact sw_one W H T n _ _ _ 3 _ _ 4 w h v1 v2 v3 v4 bx by_ (.inr (.inr (.inr (.inr (.inr (.inr (.inr ⟨⟨rfl,by omega,by omega,by omega⟩,rfl,rfl,rfl⟩)))))))
 ·rw [if_neg (by omega),if_neg (by omega),if_neg (by omega),if_pos e]
  exact sw_two W H T n _ _ _ 4 _ _ w h v1 v2 v3 v4 bx by_ (.inl ⟨rfl,rfl,rfl⟩)
 ·rw [if_neg (by omega),if_neg (by omega),if_neg (by omega),if_neg (by omega)]
  exact sw_two W H T n _ _ _ 5 _ _ w h v1 v2 v3 v4 bx by_ (.inr ⟨rfl,rfl,rfl⟩)
theorem add_add (a:Addr) (i j:Nat):(a.add i).add j=a.add (i+j):=by
 unfold Addr.add
 by_cases hi:i=0 <;> by_cases hj:j=0 <;> simp [hi,hj,Nat.add_assoc]
theorem Rd.take {w:World} {A:Option Addr} {n c:Nat} {xs:List Value} (h:Rd w 1 A n c xs) {j:Nat} (hj:j<=n):Rd w 1 A j c (xs.take j):=by
 refine ⟨by rw [List.length_take,h.len];omega,by have:=h.cap;omega,h.nil,fun q u hq=>?_⟩
 refine h.read q u ?_
 rw [List.getElem?_take] at hq
 split at hq
 ·exact hq
 ·cases hq
theorem Rd.drop {w:World} {A:Option Addr} {n c:Nat} {xs:List Value} (h:Rd w 1 A n c xs) {j:Nat} (hj:j<=n):Rd w 1 (if c=j then A else A.map (·.add j)) (n-j) (c-j) (xs.drop j):=by
 refine ⟨by rw [List.length_drop,h.len];omega,by have:=h.cap;omega,fun e=>?_,fun q u hq=>?_⟩
 ·split at e
  ·have:=h.nil e;omega
  ·cases A with
   | none=>have:=h.nil rfl;omega
   | some a=>simp at e
 ·rw [List.getElem?_drop] at hq
  obtain ⟨a,rfl,hb,hc⟩:=h.read _ u hq
  have hl:=(List.getElem?_eq_some_iff.1 hq).1
  have:=h.len
  have:=h.cap
  rw [if_neg (by omega)]
  exact ⟨a.add j,rfl,by rw [add_block];exact hb,by rw [add_add];exact hc⟩
section
variable {ops : Array Oper} {o : Oper} {a : Act} {K : Act → World → Prop} {Q : Exit → Act → World → Prop} {E : Prop}
theorem step_app_ints (hgd:o.guard=none) (s x:Operand) (ho:o.op=.call { callee:=.builtin .append,args:=#[s,x],argTypes:=#[25,25] })
  {W:World} (base:Nat) (A:Option Addr) (k c:Nat) (L:List Int) (hs:a.eval s=.slice A k c) (O:W.ownsRow base 3 1 (.slice A k c) k (ints L)) (A2:Option Addr) (n d:Nat) (M:List Int) (hx:a.eval x=.slice A2 n d) (hr:Rd W 1 A2 n d (ints M))
  (hk:k+n<=100000000) (hb:base<=W.heap.size)
  (h:∀ A' c' w',w'.ownsRow base 3 1 (.slice A' (k+n) c') (k+n) (ints (L++M))->W.grownBy w' (Value.slice A k c).ownBlock->K (a.put o.dst (.slice A' (k+n) c')) w') :
  if Region.wanted o (yielded ops a.tmps)=true then Oper.wp Tryz.prog o a W K Q else E:=by
 have hw:Region.wanted o (yielded ops a.tmps)=true:=by simp [Region.wanted,hgd]
 rw [if_pos hw]
 obtain ⟨i0,hi0,hz0,hz1,hz2⟩:=info_parts int_infoA
 cases A2 with
 | none =>
  have hd:d=0:=hr.nil rfl
  have hn:n=0:=by have:=hr.cap;omega
  subst hd hn
  have hM:M=[]:=List.eq_nil_of_length_eq_zero (by have:=hr.len;rw [ints_length] at this;omega)
  subst hM
  have hrun:=run_append_owned_none (P:=Tryz.prog) (w:=W) base 25 o.type 3 i0 1 Tryz.underlying25 hi0 (.slice A k c) k (ints L) O
  unfold Oper.wp
  simp [execOp,ho,resolve,invoke,builtin,hs,hx,hrun,Result.andThen]
  exact h A c W (by simpa using O) (World.grownBy.refl W _)
 | some ad =>
  refine wp_append_own W s x 25 ho base 3 i0 (.int .i64 0) 1 8 Tryz.underlying25 hi0 hz0 hz1 hz2 rfl (by decide) (.slice A k c) k (ints L) hs O ad n d (ints M) hx (by have:=hr.len;exact this) ?_ ?_ ?_ ?_ ?_ ?_
  ·intro j u hj
   obtain ⟨a',e,-,hc⟩:=hr.read j u hj
   obtain rfl:=Option.some.inj e
   exact hc
  ·intro u hu
   obtain ⟨z,-,rfl⟩:=List.mem_map.1 hu
   rfl
  ·unfold maxLen;omega
  ·omega
  ·exact hb
  ·intro v' w' hown hg _
   obtain ⟨A',c',rfl⟩:=own_slice hown
   refine h A' c' w' ?_ hg
   rw [ints_append]
   exact hown
end
end Go.Proofs.YtmkiphadkmodnaaGreat
namespace Go.Proofs.YtmkiphadkmodnaaGreat
open Go.RowKit
def PutOut (A:Option Addr) (l:List Int) (w:World) (e:Ending) (w':World):Prop :=
 ∃ A' c',e=.returned (.slice A' l.length c')∧Rd w' 1 A' l.length c' (ints l)∧(A'=A∨∃ a,A'=some a∧w.heap.size<=a.block)∧Below w.heap.size w w'
theorem ints_take (l:List Int) (j:Nat):(ints l).take j=ints (l.take j):=by simp [ints,List.map_take]
theorem ints_drop (l:List Int) (j:Nat):(ints l).drop j=ints (l.drop j):=by simp [ints,List.map_drop]
theorem rd_one (W:World) (n:Int):Rd (W.alloc (.cells #[.int .i64 n] 3)) 1 (some ⟨W.heap.size,0,none⟩) 1 1 (ints [n]) :=
 ⟨rfl,Nat.le_refl _,fun h=>(by cases h),fun j u hj=>by
  rcases j with _|j
  ·simp [ints] at hj;subst hj
   exact ⟨_,rfl,by simp,World.cell?_alloc_at _ _ _ _ rfl⟩
  ·simp [ints] at hj⟩
theorem rd_cell {W:World} {g:Nat} {n:Int} (hg:g<W.heap.size) (h:W.cell? ⟨g,0,none⟩=some (.int .i64 n)):Rd W 1 (some ⟨g,0,none⟩) 1 1 (ints [n]) :=
 ⟨rfl,Nat.le_refl _,fun h=>(by cases h),fun j u hj=>by
  rcases j with _|j
  ·simp [ints] at hj;subst hj
   exact ⟨_,rfl,hg,h⟩
  ·simp [ints] at hj⟩
theorem cell_grown {W w3:World} {g:Nat} {n:Int} (hg:W.grownBy w3 none) (hl:g<W.heap.size) (h:W.cell? ⟨g,0,none⟩=some (.int .i64 n)):w3.cell? ⟨g,0,none⟩=some (.int .i64 n) :=
 (World.cell?_of_block (w:=W) (hg.block g hl (by simp))).trans h
theorem put_end {A:Option Addr} {l M:List Int} {n:Int} {w w':World} {A':Option Addr} {c' kk:Nat} (hl:putL l n=M) (hk:M.length=kk) (hp:0<kk) (ho:w'.ownsRow w.heap.size 3 1 (.slice A' kk c') kk (ints M)) (hb:Below w.heap.size w w'):PutOut A (putL l n) w (.returned (.slice A' kk c')) w':=by
 subst hl hk
 obtain ⟨g,cap,hv,hg,-⟩:=ho.form hp
 refine ⟨A',c',rfl,Rd.of_own ho,.inr ?_,hb⟩
 injection hv with h1
 exact ⟨_,h1,hg⟩
theorem put_any (w:World) (A:Option Addr) (k c:Nat) (l:List Int) (n:Int) (hr:Rd w 1 A k c (ints l)) (hk:k<=1000000) :
  Calls Tryz.prog 130 #[.slice A k c,.int .i64 n] w (PutOut A (putL l n) w):=by
 have hlk:l.length=k:=by have:=hr.len;rw [ints_length] at this;omega
 have hc:=hr.cap
 obtain ⟨R,hR⟩:∃ R,PutOut A (putL l n) w=R:=⟨_,rfl⟩
 rw [hR]
 have HR:=hd_ hR
 have HI:=hd_ hr
 have HL:=hd_ hlk
 clear hR hr hlk
 go_enter Tryz.func130,Tryz.ntmps130
 go_wp2_with fail
 go_loop [5] (fun i=>∃ j:Nat,j<=k∧i=.int .i64 (j:Int)∧Hid (∀ q,q<j->l.getD q 0<n)) (fun i=>k-(intOf i).toNat)
 case atStart=>exact ⟨0,by omega,rfl,hd_ (fun q hq=>by omega)⟩
 case round =>
  obtain ⟨j,hj,rfl,HQ⟩:=hrel
  by_cases hlt:j<k
  ·obtain ⟨ad,rfl,hab,hcell⟩:=HI.out.int hlt
   obtain ⟨x,hx⟩:∃ x,l.getD j 0=x:=⟨_,rfl⟩
   have HX:=hd_ hx
   rw [hx] at hcell
   clear hx
   by_cases hxn:x<n
   ·go_wp2_with fail
    go_round
    case rel=>exact ⟨j+1,by omega,by go_num,hd_ (fun q hq=>by
     by_cases e:q=j
     ·subst e;rw [HX.out];exact hxn
     ·exact HQ.out q (by omega))⟩
    case measure=>simp [intOf];omega
   ·by_cases he:x=n
    ·subst he
     go_wp2_with fail
     rw [<- HR.out,putL_there HQ.out (by rw [HL.out];exact hlt) HX.out]
     exact ⟨some ad,c,by rw [HL.out],by rw [HL.out];exact HI.out,.inl rfl,br_⟩
    ·have hne:(x==n)=false:=by simpa using he
     have hjc:j<=c:=by omega
     have hcj:¬ c=j:=by omega
     have HP:Hid (putL l n=l.take j++[n]++l.drop j):=hd_ (putL_new HQ.out (by rw [HL.out];omega) (fun _=>by rw [HX.out];omega))
     have HM:Hid ((l.take j++[n]++l.drop j).length=j+1+(k-j)):=hd_ (by simp only [List.length_append,List.length_take,List.length_drop,HL.out,List.length_singleton];omega)
     have RD43:Hid (∀ w',Below w.heap.size w w'->Rd w' 1 (some (ad.add j)) ((k-j)) ((c-j)) (ints (l.drop j))):=hd_ (fun w' hb=>by
      have:=(HI.out.drop (j:=j) (by omega)).later hb
      rw [ints_drop] at this
      simpa [hcj] using this)
     go_wp2_with fail
     go_region_law ((first
      | (refine step_app_ints rfl (.const (.slice none 0 0)) (.tmp 35) rfl w.heap.size none 0 0 [] rfl (World.ownsRow_nil _ _ _ _) (some ad) j c (l.take j) (by simp [Act.eval,Act.put]) (by have:=(HI.out.take (j:=j) (by omega));rw [ints_take] at this;exact this.later (by first|exact br_.drew|exact (br_.alloc (Nat.le_refl _) _).drew|exact br_.drew.alloc (Nat.le_refl _) _)) (by omega) (by first|exact Nat.le_refl _|simp) ?_;intro A3 c3 w3 hown3 hg3;(try simp only [Nat.zero_add,List.nil_append] at hown3);have B3:Below w.heap.size w w3:=(by first|exact br_.drew.grown hg3 (Nat.le_refl _) (by simp [Value.ownBlock])|exact (br_.alloc (Nat.le_refl _) _).drew.grown hg3 (by simp) (by simp [Value.ownBlock]));(try have C3:Hid (w3.cell? ⟨w.heap.size,0,none⟩=some (.int .i64 n)∧w.heap.size<w3.heap.size):=hd_ ⟨cell_grown hg3 (by simp) (World.cell?_alloc_at _ _ _ _ rfl),by have:=hg3.size;simp at this;omega⟩);have O3:=hd_ hown3;have B3:=hd_ B3;clear hown3 hg3)
      | (refine step_app_ints rfl (.tmp 36) (.tmp 38) rfl w.heap.size A3 j c3 (l.take j) (by simp [Act.eval,Act.put]) (O3.out.alloc _) (some ⟨w3.heap.size,0,none⟩) 1 1 [n] (by simp [Act.eval,Act.put]) (rd_one _ _) (by omega) (by have:=B3.out.size;simp;omega) ?_;intro A5 c5 w5 hown5 hg5;have O5:=hd_ hown5;have B5:Hid (Below w.heap.size w w5):=hd_ ((B3.out.alloc B3.out.size (.cells #[.int .i64 n] 3)).grown hg5 (by have:=B3.out.size;simp;omega) (fun j hj=>own_base O3.out hj));clear hown5 hg5)
      | (refine step_app_ints rfl (.tmp 36) (.tmp 38) rfl w.heap.size A3 j c3 (l.take j) (by simp [Act.eval,Act.put]) O3.out (some ⟨w.heap.size,0,none⟩) 1 1 [n] (by simp [Act.eval,Act.put]) (rd_cell C3.out.2 C3.out.1) (by omega) B3.out.size ?_;intro A5 c5 w5 hown5 hg5;have O5:=hd_ hown5;have B5:Hid (Below w.heap.size w w5):=hd_ (B3.out.grown hg5 B3.out.size (fun j hj=>own_base O3.out hj));clear hown5 hg5)
      | (refine step_app_ints rfl (.tmp 39) (.tmp 42) rfl w.heap.size A5 (j+1) c5 (l.take j++[n]) (by simp [Act.eval,Act.put]) O5.out (some (ad.add j)) (k-j) (c-j) (l.drop j) (by simp [Act.eval,Act.put]) (RD43.out _ B5.out) (by omega) B5.out.size ?_;intro A6 c6 w6 hown6 hg6;have O6:=hd_ hown6;have B6:Hid (Below w.heap.size w w6):=hd_ (B5.out.grown hg6 B5.out.size (fun j hj=>own_base O5.out hj));clear hown6 hg6)))
     all_goals
      go_wp2_with fail
      go_ret
      rw [<- HR.out]
      exact put_end HP.out (HM.out.trans (by omega)) (by omega) O6.out B6.out
  ·obtain rfl:j=k:=by omega
   have hjc:j<=c:=by omega
   have HP:Hid (putL l n=l.take j++[n]++l.drop j):=hd_ (putL_new HQ.out (by rw [HL.out];omega) (fun h=>by rw [HL.out] at h;omega))
   have HM:Hid ((l.take j++[n]++l.drop j).length=j+1+(j-j)):=hd_ (by simp only [List.length_append,List.length_take,List.length_drop,HL.out,List.length_singleton];omega)
   cases A with
   | none =>
    have hc0:c=0:=HI.out.nil rfl
    have hj0:j=0:=by omega
    subst hc0 hj0
    have RD43:Hid (∀ w',Below w.heap.size w w'->Rd w' 1 none (0) (0) (ints (l.drop 0))):=hd_ (fun w' hb=>by
     have:=(HI.out.drop (j:=0) (by omega)).later hb
     rw [ints_drop] at this
     simpa using this)
    go_wp2_with fail
    go_region_law ((first
     | (refine step_app_ints rfl (.const (.slice none 0 0)) (.tmp 35) rfl w.heap.size none 0 0 [] rfl (World.ownsRow_nil _ _ _ _) none 0 0 (l.take 0) (by simp [Act.eval,Act.put]) (by have:=(HI.out.take (j:=0) (by omega));rw [ints_take] at this;exact this.later (by first|exact br_.drew|exact (br_.alloc (Nat.le_refl _) _).drew|exact br_.drew.alloc (Nat.le_refl _) _)) (by omega) (by first|exact Nat.le_refl _|simp) ?_;intro A3 c3 w3 hown3 hg3;(try simp only [Nat.zero_add,List.nil_append] at hown3);have B3:Below w.heap.size w w3:=(by first|exact br_.drew.grown hg3 (Nat.le_refl _) (by simp [Value.ownBlock])|exact (br_.alloc (Nat.le_refl _) _).drew.grown hg3 (by simp) (by simp [Value.ownBlock]));(try have C3:Hid (w3.cell? ⟨w.heap.size,0,none⟩=some (.int .i64 n)∧w.heap.size<w3.heap.size):=hd_ ⟨cell_grown hg3 (by simp) (World.cell?_alloc_at _ _ _ _ rfl),by have:=hg3.size;simp at this;omega⟩);have O3:=hd_ hown3;have B3:=hd_ B3;clear hown3 hg3)
     | (refine step_app_ints rfl (.tmp 36) (.tmp 38) rfl w.heap.size A3 0 c3 (l.take 0) (by simp [Act.eval,Act.put]) (O3.out.alloc _) (some ⟨w3.heap.size,0,none⟩) 1 1 [n] (by simp [Act.eval,Act.put]) (rd_one _ _) (by omega) (by have:=B3.out.size;simp;omega) ?_;intro A5 c5 w5 hown5 hg5;have O5:=hd_ hown5;have B5:Hid (Below w.heap.size w w5):=hd_ ((B3.out.alloc B3.out.size (.cells #[.int .i64 n] 3)).grown hg5 (by have:=B3.out.size;simp;omega) (fun j hj=>own_base O3.out hj));clear hown5 hg5)
     | (refine step_app_ints rfl (.tmp 36) (.tmp 38) rfl w.heap.size A3 0 c3 (l.take 0) (by simp [Act.eval,Act.put]) O3.out (some ⟨w.heap.size,0,none⟩) 1 1 [n] (by simp [Act.eval,Act.put]) (rd_cell C3.out.2 C3.out.1) (by omega) B3.out.size ?_;intro A5 c5 w5 hown5 hg5;have O5:=hd_ hown5;have B5:Hid (Below w.heap.size w w5):=hd_ (B3.out.grown hg5 B3.out.size (fun j hj=>own_base O3.out hj));clear hown5 hg5)
     | (refine step_app_ints rfl (.tmp 39) (.tmp 42) rfl w.heap.size A5 (0+1) c5 (l.take 0++[n]) (by simp [Act.eval,Act.put]) O5.out none 0 0 (l.drop 0) (by simp [Act.eval,Act.put]) (RD43.out _ B5.out) (by omega) B5.out.size ?_;intro A6 c6 w6 hown6 hg6;have O6:=hd_ hown6;have B6:Hid (Below w.heap.size w w6):=hd_ (B5.out.grown hg6 B5.out.size (fun j hj=>own_base O5.out hj));clear hown6 hg6)))
    all_goals
     go_wp2_with fail
     go_ret
     rw [<- HR.out]
     exact put_end HP.out (HM.out.trans (by omega)) (by omega) O6.out B6.out
   | some ad =>
    by_cases hcj:c=j
    ·subst hcj
     have RD43:Hid (∀ w',Below w.heap.size w w'->Rd w' 1 (some ad) (0) (0) (ints (l.drop c))):=hd_ (fun w' hb=>by
      have:=(HI.out.drop (j:=c) (by omega)).later hb
      rw [ints_drop] at this
      simpa using this)
     go_wp2_with fail
     go_region_law ((first
      | (refine step_app_ints rfl (.const (.slice none 0 0)) (.tmp 35) rfl w.heap.size none 0 0 [] rfl (World.ownsRow_nil _ _ _ _) (some ad) c c (l.take c) (by simp [Act.eval,Act.put]) (by have:=(HI.out.take (j:=c) (by omega));rw [ints_take] at this;exact this.later (by first|exact br_.drew|exact (br_.alloc (Nat.le_refl _) _).drew|exact br_.drew.alloc (Nat.le_refl _) _)) (by omega) (by first|exact Nat.le_refl _|simp) ?_;intro A3 c3 w3 hown3 hg3;(try simp only [Nat.zero_add,List.nil_append] at hown3);have B3:Below w.heap.size w w3:=(by first|exact br_.drew.grown hg3 (Nat.le_refl _) (by simp [Value.ownBlock])|exact (br_.alloc (Nat.le_refl _) _).drew.grown hg3 (by simp) (by simp [Value.ownBlock]));(try have C3:Hid (w3.cell? ⟨w.heap.size,0,none⟩=some (.int .i64 n)∧w.heap.size<w3.heap.size):=hd_ ⟨cell_grown hg3 (by simp) (World.cell?_alloc_at _ _ _ _ rfl),by have:=hg3.size;simp at this;omega⟩);have O3:=hd_ hown3;have B3:=hd_ B3;clear hown3 hg3)
      | (refine step_app_ints rfl (.tmp 36) (.tmp 38) rfl w.heap.size A3 c c3 (l.take c) (by simp [Act.eval,Act.put]) (O3.out.alloc _) (some ⟨w3.heap.size,0,none⟩) 1 1 [n] (by simp [Act.eval,Act.put]) (rd_one _ _) (by omega) (by have:=B3.out.size;simp;omega) ?_;intro A5 c5 w5 hown5 hg5;have O5:=hd_ hown5;have B5:Hid (Below w.heap.size w w5):=hd_ ((B3.out.alloc B3.out.size (.cells #[.int .i64 n] 3)).grown hg5 (by have:=B3.out.size;simp;omega) (fun j hj=>own_base O3.out hj));clear hown5 hg5)
      | (refine step_app_ints rfl (.tmp 36) (.tmp 38) rfl w.heap.size A3 c c3 (l.take c) (by simp [Act.eval,Act.put]) O3.out (some ⟨w.heap.size,0,none⟩) 1 1 [n] (by simp [Act.eval,Act.put]) (rd_cell C3.out.2 C3.out.1) (by omega) B3.out.size ?_;intro A5 c5 w5 hown5 hg5;have O5:=hd_ hown5;have B5:Hid (Below w.heap.size w w5):=hd_ (B3.out.grown hg5 B3.out.size (fun j hj=>own_base O3.out hj));clear hown5 hg5)
      | (refine step_app_ints rfl (.tmp 39) (.tmp 42) rfl w.heap.size A5 (c+1) c5 (l.take c++[n]) (by simp [Act.eval,Act.put]) O5.out (some ad) 0 0 (l.drop c) (by simp [Act.eval,Act.put]) (RD43.out _ B5.out) (by omega) B5.out.size ?_;intro A6 c6 w6 hown6 hg6;have O6:=hd_ hown6;have B6:Hid (Below w.heap.size w w6):=hd_ (B5.out.grown hg6 B5.out.size (fun j hj=>own_base O5.out hj));clear hown6 hg6)))
     all_goals
      go_wp2_with fail
      go_ret
      rw [<- HR.out]
      exact put_end HP.out (HM.out.trans (by omega)) (by omega) O6.out B6.out
    ·skip
     have RD43:Hid (∀ w',Below w.heap.size w w'->Rd w' 1 (some (ad.add j)) (0) ((c-j)) (ints (l.drop j))):=hd_ (fun w' hb=>by
      have:=(HI.out.drop (j:=j) (by omega)).later hb
      rw [ints_drop] at this
      simpa [hcj] using this)
     go_wp2_with fail
     go_region_law ((first
      | (refine step_app_ints rfl (.const (.slice none 0 0)) (.tmp 35) rfl w.heap.size none 0 0 [] rfl (World.ownsRow_nil _ _ _ _) (some ad) j c (l.take j) (by simp [Act.eval,Act.put]) (by have:=(HI.out.take (j:=j) (by omega));rw [ints_take] at this;exact this.later (by first|exact br_.drew|exact (br_.alloc (Nat.le_refl _) _).drew|exact br_.drew.alloc (Nat.le_refl _) _)) (by omega) (by first|exact Nat.le_refl _|simp) ?_;intro A3 c3 w3 hown3 hg3;(try simp only [Nat.zero_add,List.nil_append] at hown3);have B3:Below w.heap.size w w3:=(by first|exact br_.drew.grown hg3 (Nat.le_refl _) (by simp [Value.ownBlock])|exact (br_.alloc (Nat.le_refl _) _).drew.grown hg3 (by simp) (by simp [Value.ownBlock]));(try have C3:Hid (w3.cell? ⟨w.heap.size,0,none⟩=some (.int .i64 n)∧w.heap.size<w3.heap.size):=hd_ ⟨cell_grown hg3 (by simp) (World.cell?_alloc_at _ _ _ _ rfl),by have:=hg3.size;simp at this;omega⟩);have O3:=hd_ hown3;have B3:=hd_ B3;clear hown3 hg3)
      | (refine step_app_ints rfl (.tmp 36) (.tmp 38) rfl w.heap.size A3 j c3 (l.take j) (by simp [Act.eval,Act.put]) (O3.out.alloc _) (some ⟨w3.heap.size,0,none⟩) 1 1 [n] (by simp [Act.eval,Act.put]) (rd_one _ _) (by omega) (by have:=B3.out.size;simp;omega) ?_;intro A5 c5 w5 hown5 hg5;have O5:=hd_ hown5;have B5:Hid (Below w.heap.size w w5):=hd_ ((B3.out.alloc B3.out.size (.cells #[.int .i64 n] 3)).grown hg5 (by have:=B3.out.size;simp;omega) (fun j hj=>own_base O3.out hj));clear hown5 hg5)
      | (refine step_app_ints rfl (.tmp 36) (.tmp 38) rfl w.heap.size A3 j c3 (l.take j) (by simp [Act.eval,Act.put]) O3.out (some ⟨w.heap.size,0,none⟩) 1 1 [n] (by simp [Act.eval,Act.put]) (rd_cell C3.out.2 C3.out.1) (by omega) B3.out.size ?_;intro A5 c5 w5 hown5 hg5;have O5:=hd_ hown5;have B5:Hid (Below w.heap.size w w5):=hd_ (B3.out.grown hg5 B3.out.size (fun j hj=>own_base O3.out hj));clear hown5 hg5)
      | (refine step_app_ints rfl (.tmp 39) (.tmp 42) rfl w.heap.size A5 (j+1) c5 (l.take j++[n]) (by simp [Act.eval,Act.put]) O5.out (some (ad.add j)) 0 (c-j) (l.drop j) (by simp [Act.eval,Act.put]) (RD43.out _ B5.out) (by omega) B5.out.size ?_;intro A6 c6 w6 hown6 hg6;have O6:=hd_ hown6;have B6:Hid (Below w.heap.size w w6):=hd_ (B5.out.grown hg6 B5.out.size (fun j hj=>own_base O5.out hj));clear hown6 hg6)))
     all_goals
      go_wp2_with fail
      go_ret
      rw [<- HR.out]
      exact put_end HP.out (HM.out.trans (by omega)) (by omega) O6.out B6.out
end Go.Proofs.YtmkiphadkmodnaaGreat
namespace Go.Proofs.YtmkiphadkmodnaaGreat
open Go.RowKit
structure Good (N:Nat) (M:Nat->List Int):Prop where
 up:∀ i,(M i).Pairwise (·<·)
 ins:∀ i m,m ∈ M i->0<=m∧m<(N:Int)
theorem up_len:∀ {l:List Int} {a b:Int},l.Pairwise (·<·)->(∀ m ∈ l,a<=m∧m<b)->a<=b->(l.length:Int)<=b-a
 | [],a,b,_,_,hab=>by simp;omega
 | x::l,a,b,h,hb,hab=>by
  have h':=List.pairwise_cons.1 h
  have hx:=hb x (by simp)
  have:=up_len (l:=l) (a:=x+1) (b:=b) h'.2 (fun m hm=>⟨by have:=h'.1 m hm;omega,(hb m (by simp [hm])).2⟩) (by omega)
  simp only [List.length_cons]
  omega
theorem Good.len {N:Nat} {M:Nat->List Int} (h:Good N M) (i:Nat):(M i).length<=N:=by
 have:=up_len (a:=0) (b:=(N:Int)) (h.up i) (h.ins i) (by omega)
 omega
theorem Good.upd {N:Nat} {M:Nat->List Int} (h:Good N M) (i:Nat) {k:Int} (hk:0<=k∧k<(N:Int)):Good N (upd M i (putL (M i) k)):=by
 constructor
 ·intro j
  unfold Go.Proofs.YtmkiphadkmodnaaGreat.upd
  split
  ·exact putL_sorted (h.up i)
  ·exact h.up j
 ·intro j m hm
  unfold Go.Proofs.YtmkiphadkmodnaaGreat.upd at hm
  split at hm
  ·rcases mem_putL.1 hm with hm|hm
   ·exact h.ins i m hm
   ·rw [hm];exact hk
  ·exact h.ins j m hm
theorem good_zero (N:Nat):Good N (fun _=>[]):=⟨fun i=>by simp,fun i m h=>by simp at h⟩
theorem nstep_ne {n:Nat} {M:Nat->List Int} {k:Nat} (h:k≠n):nstep n M (k:Int)=upd (upd M n (putL (M n) (k:Int))) k (putL (upd M n (putL (M n) (k:Int)) k) (n:Int)):=by
 unfold nstep
 rw [if_neg (by omega)]
 have:upd M n (putL (M n) (k:Int)) k=M k:=by unfold upd;rw [if_neg h]
 rw [this,Int.toNat_natCast]
theorem nstep_eq (n:Nat) (M:Nat->List Int):nstep n M (n:Int)=M:=by unfold nstep;rw [if_pos rfl]
theorem nIn_take {n:Nat} {M:Nat->List Int} {S:List Int} {q:Nat} (hq:q<S.length):nIn n M (S.take (q+1))=nstep n (nIn n M (S.take q)) (S.getD q 0):=by
 rw [List.take_succ_eq_append_getElem hq,nIn_snoc,List.getD_eq_getElem?_getD,List.getElem?_eq_getElem hq];rfl
structure Rg (w:World) (g:Nat) (A:Option Addr) (n c:Nat) (l:List Int):Prop where
 rd:Rd w 1 A n c (ints l)
 far:∀ a,A=some a->g<a.block
section
variable {w w' : World} {g n c : Nat} {A : Option Addr} {l : List Int}
theorem Rg.later (h:Rg w g A n c l) (hb:Below w.heap.size w w'):Rg w' g A n c l:=⟨h.rd.later hb,h.far⟩
theorem Rg.store (h:Rg w g A n c l) (i:Nat) (v:Value):Rg (w.setCell ⟨g,i,none⟩ v) g A n c l :=
 ⟨⟨h.rd.len,h.rd.cap,h.rd.nil,fun j u hj=>by
  obtain ⟨a,e,hb,hc⟩:=h.rd.read j u hj
  have:=h.far a e
  refine ⟨a,e,by simpa using hb,?_⟩
  rw [World.cell?_setCell_other w ⟨g,i,none⟩ (a.add j) v (fun e=>by have e2:=congrArg Addr.block e;rw [add_block] at e2;simp at e2;omega)]
  exact hc⟩,h.far⟩
end
structure NW (w0 wx:World) (W H T:Int) (g N:Nat) (M:Nat->List Int) (cs:List Value):Prop where
 below:Below w0.heap.size w0 wx
 box:Box3 wx w0.heap.size (.int .i64 W) (.int .i64 H) (.int .i64 T)
 row:wx.ownsRow g 25 1 (.slice (some ⟨g,0,none⟩) N N) N cs
 el:∀ i,i<N->∃ A c,cs[i]? = some (.slice A (M i).length c)∧Rg wx g A (M i).length c (M i)
 hg:w0.heap.size<g
 good:Good N M
section
variable {w0 wx wy : World} {W H T : Int} {g N : Nat} {M : Nat → List Int} {cs : List Value}
theorem NW.keep (h:NW w0 wx W H T g N M cs) (hb:Below wx.heap.size wx wy):NW w0 wy W H T g N M cs :=
 ⟨bt_ h.below hb,h.box.below hb,own_keep h.row hb,fun i hi=>by
  obtain ⟨A,c,e,hr⟩:=h.el i hi
  exact ⟨A,c,e,hr.later hb⟩,h.hg,h.good⟩
theorem NW.len (h:NW w0 wx W H T g N M cs):cs.length=N:=by have:=h.row.1;omega
theorem NW.cell (h:NW w0 wx W H T g N M cs) {i:Nat} (hi:i<N):∃ A c,wx.cell? ⟨g,i,none⟩=some (.slice A (M i).length c)∧wx.frozen? ⟨g,i,none⟩=false∧Rg wx g A (M i).length c (M i):=by
 obtain ⟨A,c,e,hr⟩:=h.el i hi
 refine ⟨A,c,?_,h.row.frozenAt i,hr⟩
 rw [h.row.cellAt i (by omega)]
 exact e
theorem NW.glt (h:NW w0 wx W H T g N M cs):g<wx.heap.size:=(h.row.lt g rfl).2
theorem NW.store (h:NW w0 wx W H T g N M cs) {i:Nat} (hi:i<N) {A:Option Addr} {c:Nat} {k:Int} (hk:0<=k∧k<(N:Int)) (hr:Rg wx g A (putL (M i) k).length c (putL (M i) k)) :
  NW w0 (wx.setCell ⟨g,i,none⟩ (.slice A (putL (M i) k).length c)) W H T g N (upd M i (putL (M i) k)) (cs.set i (.slice A (putL (M i) k).length c)):=by
 obtain ⟨h1,h2⟩:=h.row.stored i (.slice A (putL (M i) k).length c)
 have hgn:=h.hg
 have hbox:∀ j,(wx.setCell ⟨g,i,none⟩ (.slice A (putL (M i) k).length c)).cell? ⟨w0.heap.size,j,none⟩=wx.cell? ⟨w0.heap.size,j,none⟩:=fun j =>
  World.cell?_setCell_other wx ⟨g,i,none⟩ ⟨w0.heap.size,j,none⟩ _ (fun e=>by have e2:=congrArg Addr.block e;simp at e2;omega)
 refine ⟨h.below.grown h2 h.below.size (fun j hj=>by injection hj with hj;omega),⟨by simpa using h.box.lt,(hbox 0).trans h.box.c0,(hbox 1).trans h.box.c1,(hbox 2).trans h.box.c2⟩,h1,fun j hj=>?_,h.hg,h.good.upd i hk⟩
 have hl:=h.len
 rw [List.getElem?_set]
 unfold upd
 by_cases e:i=j
 ·subst e
  rw [if_pos rfl,if_pos (by omega),if_pos rfl]
  exact ⟨A,c,rfl,hr.store i _⟩
 ·rw [if_neg e,if_neg (fun h=>e h.symm)]
  obtain ⟨A',c',e',hr'⟩:=h.el j hj
  exact ⟨A',c',e',hr'.store i _⟩
end
theorem slice_info:(Tryz.prog.info? 25).map (fun i=>(i.zero,i.size,i.bytes))=some (some (.slice none 0 0),1,24):=by kernel_rfl
def NearOut (W H T:Int) (w:World) (e:Ending) (w':World):Prop :=
 ∃ g N cs,e=.returned (.slice (some ⟨g,0,none⟩) N N)∧nodesI W H T=(N:Int)∧NW w w' W H T g N (nearTo W H T N) cs
theorem own_far {w:World} {base:Nat} {e:TypeId} {n c g:Nat} {A:Option Addr} {xs:List Value} (h:w.ownsRow base e 1 (.slice A n c) n xs) (hg:g<base):∀ a,A=some a->g<a.block:=by
 intro a ha
 subst ha
 rcases h.2 with ⟨hv,hn⟩|⟨g',cap,cur,hv,hb,-⟩
 ·injection hv with h1;cases h1
 ·injection hv with h1
  obtain rfl:=Option.some.inj h1
  exact Nat.lt_of_lt_of_le hg hb
theorem swL_len {W H T:Int} (h:okA W H T) (n:Int):(swL W H T n).length<=64:=by
 have hT:=h.2.2
 have h1:=hereTo_len W H T (wx W H T n) (wy W H T n) (wt W H T n) 4
 have h2:=hereTo_len W H T (wx W H T n+1) (wy W H T n) (wt W H T n) 4
 have h3:=hereTo_len W H T (wx W H T n) (wy W H T n+1) (wt W H T n) 4
 unfold swL
 repeat' split
 all_goals simp only [List.length_append,trk_length]
 all_goals omega
theorem near_yes (W H T:Int) (w:World) (h:okA W H T) :
  Calls Tryz.prog 113 #[.agg #[.int .i64 W,.int .i64 H,.int .i64 T]] w (NearOut W H T w):=by
 have hnb:=nodes_bd h
 obtain ⟨N,hN⟩:∃ N:Nat,nodesI W H T=(N:Int):=⟨(nodesI W H T).toNat,by omega⟩
 have hN2:N<=87040:=by omega
 have hno:nodesO W H T=(N:Int):=by unfold nodesO;rw [if_pos h,hN]
 obtain ⟨R,hR⟩:∃ R,NearOut W H T w=R:=⟨_,rfl⟩
 rw [hR]
 have HR:=hd_ hR
 have HNO:=hd_ hno
 have HN:=hd_ hN
 have HO:=hd_ h
 have Q0:=hd_ (bn_ w (.cells #[.int .i64 W,.int .i64 H,.int .i64 T] 23))
 have B0:=hd_ (Box3.new w (.int .i64 W) (.int .i64 H) (.int .i64 T) 23)
 obtain ⟨i0,hi0,hz0,hz1,hz2⟩:=info_parts slice_info
 have HI0:=hd_ hi0
 have HZ0:=hd_ hz0
 have HZ1:=hd_ hz1
 have HZ2:=hd_ hz2
 clear hi0 hz0 hz1 hz2 hR hno hN h hnb
 go_enter Tryz.func113,Tryz.ntmps113
 go_wp2_with fail
 refine (rnodes_any _ _ _ _).mono ?_
 rintro e w1 ⟨rfl,hb1⟩
 rw [HNO.out]
 have Q1:=hd_ (bt_ Q0.out hb1)
 have B1:=hd_ (Box3.below B0.out hb1)
 clear hb1
 go_wp2_with ((with_reducible refine wpList_make_full _ rfl (.tmp 8) (.tmp 8) 30 rfl w1.heap.size 25 i0 (.slice none 0 0) 1 Tryz.underlying30 HI0.out HZ0.out HZ1.out .i64 .i64 (N:Int) (N:Int) N rfl rfl rfl rfl ?c1 ?c2 (Nat.le_refl _) ?_))
 case c1=>rw [HZ2.out];omega
 case c2=>unfold maxLen;omega
 intro w2 hm2 hg2
 have hb2:Below w1.heap.size w1 w2:=br_.grown hg2 (Nat.le_refl _) (fun _ h=>by cases h)
 rw [show (madeCells #[Value.slice none 0 0] N).toList=List.replicate N (.slice none 0 0) from toList_madeCells_one _ _] at hm2
 have W2:Hid (NW w w2 W H T w1.heap.size N (nearTo W H T 0) (List.replicate N (.slice none 0 0))):=hd_
  ⟨bt_ Q1.out hb2,B1.out.below hb2,hm2,fun i hi=>⟨none,0,by rw [List.getElem?_replicate,if_pos hi];rfl,⟨Rd.empty,fun a ha=>by cases ha⟩⟩,B1.out.lt,good_zero N⟩
 clear hm2 hg2 hb2
 generalize w1.heap.size=g at W2
 go_wp2_with fail
 go_loopw [12] (fun i wx=>∃ (n:Nat) (cs:List Value),n<=N∧i=.int .i64 (n:Int)∧NW w wx W H T g N (nearTo W H T n) cs) (fun i _=>N-(intOf i).toNat)
 case atStart=>exact ⟨0,_,by omega,rfl,W2.out⟩
 case round =>
  clear W2
  obtain ⟨n,cs,hn,rfl,hw⟩:=hrel
  have HW:=hd_ hw
  clear hw
  have k0:=HW.out.box.c0
  have k1:=HW.out.box.c1
  have k2:=HW.out.box.c2
  by_cases hlt:n<N
  ·go_wp2_with fail
   refine (rsw_any W H T _ _ ⟨HO.out,by omega,by rw [HN.out];omega⟩).mono ?_
   rintro e w3 ⟨A3,c3,rfl,ho3,hb3⟩
   obtain ⟨S,hS⟩:∃ S,swL W H T (n:Int)=S:=⟨_,rfl⟩
   rw [hS] at ho3 ⊢
   have HS:=hd_ hS
   have X3:=hd_ (HW.out.keep hb3)
   have R3:Hid (Rg w3 g A3 S.length c3 S):=hd_ ⟨Rd.of_own ho3,own_far ho3 HW.out.glt⟩
   have hSl:S.length<=64:=by rw [<- hS];exact swL_len HO.out _
   clear ho3 hb3 hS k0 k1 k2 HW
   obtain ⟨m,hm⟩:∃ m,S.length=m:=⟨_,rfl⟩
   have HM:=hd_ hm
   rw [hm] at R3 hSl ⊢
   clear hm
   go_wp2_with fail
   go_loopw [19] (fun i wx=>∃ (q:Nat) (ds:List Value),q<=m∧i=.int .i64 (q:Int)∧NW w wx W H T g N (nIn n (nearTo W H T n) (S.take q)) ds∧Rg wx g A3 m c3 S) (fun i _=>m-(intOf i).toNat)
   case atStart=>exact ⟨0,cs,by omega,rfl,X3.out,R3.out⟩
   case round =>
    clear X3 R3
    obtain ⟨q,ds,hq,rfl,hw,hr⟩:=hrel
    have HW:=hd_ hw
    have HRG:=hd_ hr
    clear hw hr
    by_cases hqm:q<m
    ·obtain ⟨a3,ha3,ha3b,hcell⟩:=HRG.out.rd.int hqm
     subst ha3
     have hqS:q<S.length:=by rw [HM.out];exact hqm
     have hmem:S.getD q 0 ∈ swL W H T (n:Int):=by rw [HS.out,List.getD_eq_getElem?_getD,List.getElem?_eq_getElem hqS];exact List.getElem_mem hqS
     have hin:=(swL_mem ⟨HO.out,by omega,by rw [HN.out];omega⟩ hmem).1
     have htk:=nIn_take (n:=n) (M:=nearTo W H T n) hqS
     obtain ⟨k,hk⟩:∃ k:Nat,S.getD q 0=(k:Int):=⟨(S.getD q 0).toNat,by have:=hin.2.1;omega⟩
     rw [hk] at hcell htk hin
     have hkN:k<N:=by have:=hin.2.2;rw [HN.out] at this;omega
     have HTK:=hd_ htk
     clear hmem hin htk hk
     obtain ⟨M,hM⟩:∃ M,nIn n (nearTo W H T n) (S.take q)=M:=⟨_,rfl⟩
     rw [hM] at HW HTK
     clear hM
     by_cases e:k=n
     ·subst e
      go_wp2_with fail
      go_roundw
      case rel=>exact ⟨q+1,ds,by omega,by go_num,by rw [HTK.out,nstep_eq];exact HW.out,HRG.out⟩
      case measure=>simp [intOf];omega
     ·have hne:((k:Int) != (n:Int))=true:=by simp;omega
      obtain ⟨A4,c4,d0,f0,rg4⟩:=HW.out.cell hlt
      have hl4:=HW.out.good.len n
      have RG4:=hd_ rg4
      clear rg4
      go_wp2_with fail
      refine (put_any _ _ _ _ _ _ RG4.out.rd (by omega)).mono ?_
      rintro e w4 ⟨A5,c5,rfl,hrd5,hor5,hb5⟩
      have hk2:(0:Int)<=(k:Int)∧(k:Int)<(N:Int):=⟨by omega,by omega⟩
      have hn2:(0:Int)<=(n:Int)∧(n:Int)<(N:Int):=⟨by omega,by omega⟩
      have H1:=HW.out.keep hb5
      have rg5:Rg w4 g A5 (putL (M n) (k:Int)).length c5 (putL (M n) (k:Int)):=⟨hrd5,fun a ha=>by
       rcases hor5 with e5|⟨a5,e5,hb⟩
       ·exact RG4.out.far a (e5.symm.trans ha)
       ·rw [e5] at ha
        obtain rfl:=Option.some.inj ha
        exact Nat.lt_of_lt_of_le HW.out.glt hb⟩
      have H2:=H1.store hlt hk2 rg5
      have S2:=hd_ ((HRG.out.later hb5).store n (.slice A5 (putL (M n) (k:Int)).length c5))
      obtain ⟨A6,c6,d1,f1,-⟩:=H1.cell hlt
      obtain ⟨A7,c7,d2,f2,rg7⟩:=H2.cell hkN
      have d3:w4.cell? ⟨g,k,none⟩=some (.slice A7 (upd M n (putL (M n) (k:Int)) k).length c7):=by
       rw [<- World.cell?_setCell_other w4 ⟨g,n,none⟩ ⟨g,k,none⟩ (.slice A5 (putL (M n) (k:Int)).length c5) (fun e'=>e (by simpa using e'.symm))]
       exact d2
      have RG7:=hd_ rg7
      have X2:=hd_ H2
      have hl7:=H2.good.len k
      clear H1 H2 rg5 rg7 hb5 hrd5 hor5 d0 f0 hcell RG4 HRG
      generalize (putL (M n) (k:Int)).length=L5 at d2 d3 S2 X2 RG7
      obtain ⟨M1,hM1⟩:∃ M1,upd M n (putL (M n) (k:Int))=M1:=⟨_,rfl⟩
      rw [hM1] at d2 d3 X2 RG7 hl7
      have HM1:=hd_ hM1
      clear hM1
      go_wp2_with fail
      refine (put_any _ _ _ _ _ _ RG7.out.rd (by omega)).mono ?_
      rintro e w5 ⟨A8,c8,rfl,hrd8,hor8,hb8⟩
      have H3:=X2.out.keep hb8
      have rg8:Rg w5 g A8 (putL (M1 k) (n:Int)).length c8 (putL (M1 k) (n:Int)):=⟨hrd8,fun a ha=>by
       rcases hor8 with e8|⟨a8,e8,hb⟩
       ·exact RG7.out.far a (e8.symm.trans ha)
       ·rw [e8] at ha
        obtain rfl:=Option.some.inj ha
        exact Nat.lt_of_lt_of_le X2.out.glt hb⟩
      have X4:=hd_ (H3.store hkN hn2 rg8)
      have S4:=hd_ ((S2.out.later hb8).store k (.slice A8 (putL (M1 k) (n:Int)).length c8))
      obtain ⟨A9,c9,d4,f4,-⟩:=H3.cell hkN
      clear H3 rg8 hb8 hrd8 hor8 d1 d2 d3 f1 f2 RG7 S2 X2
      go_wp2_with fail
      go_roundw
      case rel=>exact ⟨q+1,_,by omega,by go_num,by rw [HTK.out,nstep_ne e,HM1.out];exact X4.out,S4.out⟩
      case measure=>simp [intOf];omega
    ·obtain rfl:q=m:=by omega
     have hfull:S.take q=S:=by rw [List.take_of_length_le (by rw [HM.out];exact Nat.le_refl _)]
     rw [hfull] at HW
     clear hfull
     go_wp2_with fail
     go_roundw
     case rel=>exact ⟨n+1,ds,by omega,by go_num,by rw [<- HS.out] at HW;exact HW.out⟩
     case measure=>simp [intOf];omega
  ·obtain rfl:n=N:=by omega
   go_wp2_with fail
   rw [<- HR.out]
   exact ⟨g,n,cs,rfl,HN.out,HW.out⟩
end Go.Proofs.YtmkiphadkmodnaaGreat
namespace Go.Proofs.YtmkiphadkmodnaaGreat
open Go.RowKit
theorem upL_le (M:List Int) (n q:Nat) (hq:q<=M.length):(upL M n q).length<=(upL M n M.length).length:=by
 unfold upL
 rw [List.length_map,List.length_map,List.take_length]
 exact ((List.take_sublist q M).filter _).length_le
theorem pairsTo_le (M : Nat → List Int) : ∀ {n k : Nat}, n ≤ k → (pairsTo M n).length ≤ (pairsTo M k).length
  | n, 0, h => by obtain rfl : n = 0 := by omega
                  exact Nat.le_refl _
  | n, k + 1, h => by
    by_cases e : n = k + 1
    · subst e; exact Nat.le_refl _
    · have := pairsTo_le M (n := n) (k := k) (by omega)
      simp only [pairsTo, List.length_append]
      omega
theorem pairs_bd {M:Nat->List Int} {n N q:Nat} (hn:n<N) (hq:q<=(M n).length):(pairsTo M n++upL (M n) n q).length<=(pairsTo M N).length:=by
 have h1:=pairsTo_le M (n:=n+1) (k:=N) (by omega)
 have h2:=upL_le (M n) n q hq
 simp only [pairsTo,List.length_append] at h1 ⊢
 omega
theorem redges_yes (W H T:Int) (w:World) (h:okA W H T) :
  Calls Tryz.prog 89 #[.agg #[.int .i64 W,.int .i64 H,.int .i64 T]] w (EdgesOut W H T w):=by
 have hlen:(edgesL W H T).length<=6000000:=by have:=rawL_len h;unfold edgesL;rw [sortP_length];exact this
 have HLEN:=hd_ hlen
 obtain ⟨R,hR⟩:∃ R,EdgesOut W H T w=R:=⟨_,rfl⟩
 rw [hR]
 have HR:=hd_ hR
 have HO:=hd_ h
 have Q0:=hd_ (bn_ w (.cells #[.int .i64 W,.int .i64 H,.int .i64 T] 23))
 have B0:=hd_ (Box3.new w (.int .i64 W) (.int .i64 H) (.int .i64 T) 23)
 clear hR h hlen
 go_enter Tryz.func89,Tryz.ntmps89
 go_wp2_with fail
 refine (rcheck_yes _ _ _ _ HO.out).mono ?_
 rintro e w1 ⟨rfl,hb1⟩
 have Q1:=hd_ (bt_ Q0.out hb1)
 have B1:=hd_ (Box3.below B0.out hb1)
 have k0:=B1.out.c0
 have k1:=B1.out.c1
 have k2:=B1.out.c2
 clear hb1
 go_wp2_with fail
 refine (near_yes _ _ _ _ HO.out).mono ?_
 rintro e w2 ⟨g,N,cs,rfl,hN,hw⟩
 have HN:=hd_ hN
 have hN2:N<=87040:=by have:=nodes_bd HO.out;omega
 have HW:=hd_ hw
 have Q2:=hd_ (bt_ Q1.out hw.below)
 clear hN hw k0 k1 k2
 obtain ⟨M,hM⟩:∃ M,nearTo W H T N=M:=⟨_,rfl⟩
 have HM:=hd_ hM
 rw [hM] at HW
 clear hM
 have hbd:(pairsTo M N).length<=6000000:=by rw [<- HM.out,pairs_edges HO.out HN.out];exact HLEN.out
 go_wp2_with fail
 go_loopw [4,15] (fun v i wx=>∃ n:Nat,n<=N∧i=.int .i64 (n:Int)∧Below w2.heap.size w2 wx∧wx.ownsRow w2.heap.size 103 2 v (pairsTo M n).length (pc (pairsTo M n))) (fun _ i _=>N-(intOf i).toNat)
 case atStart=>exact ⟨0,by omega,rfl,br_,by simpa [pairsTo,pc] using World.ownsRow_nil _ _ _ _⟩
 case round =>
  obtain ⟨n,hn,rfl,hb,ho⟩:=hrel
  obtain ⟨AA,cc,rfl⟩:=own_slice ho
  have HB:=hd_ hb
  have HOW:=hd_ ho
  have hsz:w2.heap.size<=wr.heap.size:=hb.size
  clear hb ho
  by_cases hlt:n<N
  ·obtain ⟨A3,c3,d0,-,rg3⟩:=HW.out.cell hlt
   have hl3:=HW.out.good.len n
   have RG:=hd_ rg3
   have d1:=(HB.out.cell (p:=⟨g,n,none⟩) HW.out.glt).trans d0
   clear d0 rg3
   obtain ⟨m,hm⟩:∃ m,(M n).length=m:=⟨_,rfl⟩
   have HMM:=hd_ hm
   rw [hm] at d1 RG hl3
   clear hm
   go_wp2_with fail
   go_loopw [4,22] (fun v i wx=>∃ q:Nat,q<=m∧i=.int .i64 (q:Int)∧Below w2.heap.size w2 wx∧wx.ownsRow w2.heap.size 103 2 v (pairsTo M n++upL (M n) n q).length (pc (pairsTo M n++upL (M n) n q))) (fun _ i _=>m-(intOf i).toNat)
   case atStart=>exact ⟨0,by omega,rfl,HB.out,by rw [upL_zero,List.append_nil];exact HOW.out⟩
   case round =>
    clear HB HOW hsz d1
    obtain ⟨q,hq,rfl,hb,ho⟩:=hrel
    obtain ⟨AA,cc,rfl⟩:=own_slice ho
    have HB:=hd_ hb
    have HOW:=hd_ ho
    have hsz:w2.heap.size<=wr.heap.size:=hb.size
    clear hb ho
    by_cases hqm:q<m
    ·obtain ⟨a3,ha3,hab,hc⟩:=(RG.out.rd.later HB.out).int hqm
     subst ha3
     have hqM:q<(M n).length:=by rw [HMM.out];exact hqm
     have hup:=upL_succ (n:=n) hqM
     have hbq:=pairs_bd (M:=M) (n:=n) (N:=N) (q:=q) hlt (by omega)
     obtain ⟨k,hk⟩:∃ k,(M n).getD q 0=k:=⟨_,rfl⟩
     rw [hk] at hc hup
     have HUP:=hd_ hup
     clear hk hup
     obtain ⟨L,hL⟩:∃ L,pairsTo M n++upL (M n) n q=L:=⟨_,rfl⟩
     rw [hL] at HOW hbq ⊢
     have HL:=hd_ hL
     clear hL
     obtain ⟨len,hlen⟩:∃ len,L.length=len:=⟨_,rfl⟩
     rw [hlen] at HOW hbq ⊢
     have HLN:=hd_ hlen
     clear hlen
     by_cases e:(n:Int)<k
     ·go_wp2_with (at_builtin;refine wpList_app_pair rfl (.tmp 29) (.tmp 33) rfl w2.heap.size AA len cc L rfl HOW.out (n:Int) k rfl (by omega) hsz ?_)
      intro A5 c5 w5 hown5 hg5
      have B5:=hd_ ((HB.out.alloc hsz (.cells #[.int .i64 (n:Int),.int .i64 k] 103)).grown hg5 (by simp;omega) (fun j hj=>own_base HOW.out hj))
      have O5:=hd_ hown5
      clear hown5 hg5
      go_wp2_with fail
      go_roundw
      case rel =>
       refine ⟨q+1,by omega,by go_num,B5.out,?_⟩
       rw [HUP.out,if_pos e,<- List.append_assoc,HL.out,List.length_append,HLN.out]
       exact O5.out
      case measure=>simp [intOf];omega
     ·go_wp2_with fail
      go_roundw
      case rel =>
       refine ⟨q+1,by omega,by go_num,HB.out,?_⟩
       rw [HUP.out,if_neg e,List.append_nil,HL.out,HLN.out]
       exact HOW.out
      case measure=>simp [intOf];omega
    ·obtain rfl:q=m:=by omega
     go_wp2_with fail
     go_roundw
     case rel =>
      refine ⟨n+1,by omega,by go_num,HB.out,?_⟩
      have hp:pairsTo M (n+1)=pairsTo M n++upL (M n) n q:=by rw [<- HMM.out];rfl
      rw [hp]
      exact HOW.out
     case measure=>simp [intOf];omega
  ·obtain rfl:n=N:=by omega
   have hp:pairsTo M n=edgesL W H T:=by rw [<- HM.out];exact pairs_edges HO.out HN.out
   have HP:=hd_ hp
   clear hp
   go_wp2_with fail
   rw [<- HR.out]
   exact ⟨.slice AA (pairsTo M n).length cc,rfl,Q2.out.trans (HB.out.mono Q2.out.size),by rw [<- HP.out];exact own_low HOW.out Q2.out.size⟩
end Go.Proofs.YtmkiphadkmodnaaGreat
