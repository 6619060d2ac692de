/- BfM, 6 -/
import Derived.Laws.EntriesVeiled
import Derived.Deep.AppendLies
import Derived.Maps.AppendAt
import Derived.Test.YtmkiphadkmodnaaGreatZBfM2
import Derived.Test.YtmkiphadkmodnaaGreatZBfM4
import Derived.Test.YtmkiphadkmodnaaGreatZBfM0
set_option linter.all false
set_option maxRecDepth 100000
set_option maxHeartbeats 8000000
namespace Go.Proofs.YtmkiphadkmodnaaGreat
open Go.RowKit
theorem wh_bd {W H T n:Int} (h:isN W H T n):(0<=whX W H T n∧whX W H T n<=64)∧(0<=whY W H T n∧whY W H T n<=64)∧(0<=whT W H T n∧whT W H T n<=64)∧(whK W H T n=2->whT W H T n<4):=by
 obtain ⟨v1,v2,v3,v4,-⟩:=wh_yes h
 obtain ⟨hk,⟨⟨a1,a2⟩,⟨a3,a4⟩,a5,a6⟩,-⟩:=what_nodeAt h
 have hb:=g_bd h.1 hk
 rw [v1,v2,v3,v4]
 refine ⟨by omega,by omega,by omega,fun e=>?_⟩
 have e1:gk W H T n=1:=by omega
 rw [e1] at a6
 simpa [gd] using a6
theorem wh_kinds {W H T n:Int} (h:isN W H T n):whK W H T n=1∨whK W H T n=2∨whK W H T n=3∨whK W H T n=4∨whK W H T n=5:=by
 obtain ⟨v1,-⟩:=wh_yes h
 obtain ⟨hk,-⟩:=what_nodeAt h
 omega
def cornerC (x y:Int):List Value:=[.int .i64 4,.int .i64 (x-1),.int .i64 y,.int .i64 4,.int .i64 x,.int .i64 y,.int .i64 5,.int .i64 x,.int .i64 (y-1),.int .i64 5,.int .i64 x,.int .i64 y]
theorem corner_at (x y:Int) {k:Nat} (hk:k<4) (w:World) :
  (Instr.index 114 (.agg (cornerC x y).toArray) (.int .i64 (k:Int))).run Tryz.prog w=.ok (.agg #[.int .i64 ((coC k:Int)+1),.int .i64 (coX x k),.int .i64 (coY y k)]) w:=by
 rcases lt4 hk with rfl|rfl|rfl|rfl <;> kernel_rfl
theorem corner_built (x y:Int):Tryz.prog.built 114 [(0,.agg #[.int .i64 4,.int .i64 (x-1),.int .i64 y]),(1,.agg #[.int .i64 4,.int .i64 x,.int .i64 y]),(2,.agg #[.int .i64 5,.int .i64 x,.int .i64 (y-1)]),(3,.agg #[.int .i64 5,.int .i64 x,.int .i64 y])]=some (cornerC x y).toArray:=by kernel_rfl
theorem int_info:(Tryz.prog.info? 3).map (fun i=>(i.zero,i.size,i.bytes))=some (some (.int .i64 0),1,8):=by kernel_rfl
theorem own_keeps {w w':World} {base n:Nat} {v:Value} {xs:List Value} (h:w.ownsRow base 3 1 v n xs) (hk:Keeps w w'):w'.ownsRow base 3 1 v n xs:=by
 rcases h with ⟨h1,h2⟩
 refine ⟨h1,?_⟩
 rcases h2 with h2|⟨g',cap,cur,hv,hg,hh,hr⟩
 ·exact .inl h2
 ·exact .inr ⟨g',cap,cur,hv,hg,hk.2 g' _ _ hh (by decide) (by decide),hr⟩
theorem own_grown {w w':World} {base base':Nat} {e e':TypeId} {size size' n n':Nat} {v v':Value} {xs xs':List Value} (h:w.ownsRow base e size v n xs) (h':w.ownsRow base' e' size' v' n' xs') (hne:e'≠e) (hg:w.grownBy w' v'.ownBlock):w'.ownsRow base e size v n xs:=by
 rcases h with ⟨h1,h2⟩
 refine ⟨h1,?_⟩
 rcases h2 with h2|⟨g,cap,cur,hv,hb,hh,hr⟩
 ·exact .inl h2
 ·exact .inr ⟨g,cap,cur,hv,hb,Blk.grown hh hg (Ne.symm (own_other h' (t:=e) hh hne)),hr⟩
theorem EW.grown {w0 w w':World} {B A J n:Nat} {W H T:Int} {xs:List (Int × Int)} {v:Value} {l:List Value} (h:EW w0 w B A J W H T xs) (hown:w.ownsRow w0.heap.size 3 1 v n l) (hg:w.grownBy w' v.ownBlock):EW w0 w' B A J W H T xs:=by
 obtain ⟨u,h1,h2⟩:=h.out
 refine ⟨h.below.grown hg h.below.size (fun k hk=>own_base hown hk),h.hB,h.hA,h.hJ,⟨u,?_,?_⟩,?_,?_⟩
 ·exact h1.grown hg (Ne.symm (own_other hown h1 (by decide)))
 ·exact own_grown h2 hown (by decide) hg
 ·exact h.arch.grown hg (Ne.symm (own_other hown h.arch (by decide)))
 ·exact h.join.grown hg (Ne.symm (own_other hown h.join (by decide)))
theorem own_cell {w:World} {base n q:Nat} {A:Option Addr} {c:Nat} {l:List Int} (h:w.ownsRow base 3 1 (.slice A n c) n (l.map (Value.int .i64))) (hq:q<n):∃ g,A=some ⟨g,0,none⟩∧w.cell? ⟨g,q,none⟩=some (.int .i64 (l.getD q 0)):=by
 obtain ⟨g,cap,hv,_,_⟩:=h.form (by omega)
 have hA:A=some ⟨g,0,none⟩:=by injection hv
 subst hA
 have hl:l.length=n:=by have:=h.1;simpa using this
 refine ⟨g,rfl,?_⟩
 have:=h.cells (g:=g) rfl q (.int .i64 (l.getD q 0)) (by
  rw [List.getElem?_map,List.getElem?_eq_getElem (by omega)]
  simp [List.getD_eq_getElem?_getD,List.getElem?_eq_getElem (show q<l.length by omega)])
 rw [Addr.add_lit] at this
 simpa using this
def ic (l:List Int):List Value:=l.map (Value.int .i64)
def edgesL (W H T:Int):List (Int × Int):=sortP (rawL W H T)
def EdgesOut (W H T:Int) (w:World) (e:Ending) (w':World):Prop :=
 ∃ v,e=.returned (.tuple #[v,.int .i64 0])∧Below w.heap.size w w'∧w'.ownsRow w.heap.size 103 2 v (edgesL W H T).length (pc (edgesL W H T))
theorem edges_yes (W H T:Int) (w:World) (h:okA W H T) :
  Calls Tryz.prog 20 #[.agg #[.int .i64 W,.int .i64 H,.int .i64 T]] w (EdgesOut W H T w):=by
 have hh:=h
 unfold okA at hh
 have hnb:=nodes_bd h
 obtain ⟨N,hN⟩:∃ N:Nat,nodesI W H T=(N:Int):=⟨(nodesI W H T).toNat,by omega⟩
 have hN2:N<=87040:=by omega
 go_enter Tryz.func20,Tryz.ntmps20
 go_wp2_with (first
  | (go_at_call 36;refine (check_yes W H T _ h).mono ?_;rintro e w1 ⟨rfl,hb1⟩;have B1:=Box3.below (Box3.new w (.int .i64 W) (.int .i64 H) (.int .i64 T) 23) hb1;obtain ⟨z1,k10,k11,k12⟩:=id B1)
  | (go_at_call 68;refine (nodes_yes W H T _ h).mono ?_;rintro e w2 ⟨rfl,hb2⟩))
 have hfin:EW w w2 w1.heap.size w.heap.size (w1.heap.size+1) W H T []:=by
  have e0:EW w ((w1.alloc (.cells #[.slice none 0 0] 57)).alloc (.cells #[.func (.func 65) #[] #[.pointer (some ⟨w1.heap.size,0,none⟩)]] 88)) w1.heap.size w.heap.size (w1.heap.size+1) W H T []:=by
   have q1:Below w.heap.size w w1:=bt_ (bn_ w _) hb1
   refine ⟨bt_ (bt_ q1 (bn_ _ _)) (bn_ _ _),q1.size,Nat.le_refl _,by have:=q1.size;omega,⟨.slice none 0 0,(Blk.made w1 _ _).alloc _,by simp [pc],.inl ⟨rfl,rfl⟩⟩,?_,?_⟩
   ·exact (((Blk.made w _ _).keep hb1).alloc _).alloc _
   ·have:=Blk.made (w1.alloc (.cells #[.slice none 0 0] 57)) 88 #[.func (.func 65) #[] #[.pointer (some ⟨w1.heap.size,0,none⟩)]]
    simpa using this
  exact e0.keep hb2
 have HF:=hd_ hfin
 have HO:=hd_ h
 have HH:=hd_ hh
 clear hfin h hb1 hb2 B1 z1 k10 k11 k12
 clear hh hnb
 go_loopw [35] (fun i wr=>∃ k:Nat,k<=N∧i=.int .i64 (k:Int)∧EW w wr w1.heap.size w.heap.size (w1.heap.size+1) W H T (loop1 W H T k)) (fun i _=>N-(intOf i).toNat)
 case atStart=>exact ⟨0,by omega,rfl,HF.out⟩
 case round =>
  obtain ⟨k,hk,rfl,hw⟩:=hrel
  by_cases hlt:k<N
  ·have a0:wr.cell? ⟨w.heap.size,0,none⟩=some (.int .i64 W):=hw.arch.cell 0
   have a1:wr.cell? ⟨w.heap.size,1,none⟩=some (.int .i64 H):=hw.arch.cell 1
   have a2:wr.cell? ⟨w.heap.size,2,none⟩=some (.int .i64 T):=hw.arch.cell 2
   have HW:=hd_ hw
   clear hw
   have hisN:isN W H T (k:Int):=⟨HO.out,by omega,by omega⟩
   obtain ⟨⟨bx0,bx1⟩,⟨by0,by1⟩,⟨bt0,bt1⟩,bk⟩:=wh_bd hisN
   have BK:=hd_ bk
   clear bk
   have hl1:=loop1_len (W:=W) (H:=H) (T:=T) HH.out.2.2.2 k
   have HL1:=hd_ hl1
   clear hl1
   rcases wh_kinds hisN with hc|hc|hc|hc|hc
   ·go_wp2_with (first
     | (go_at_call 69;refine (what_any _ _ _ _ _).mono ?_;rintro e w3 ⟨rfl,hb3⟩;have E3:=hd_ (HW.out.keep hb3))
     | (go_at_call 70;refine (around_any _ _ _ (by omega) (by omega)).mono ?_;rintro e w4 ⟨rfl,hb4⟩;have E4:=hd_ (E3.out.keep hb4)))
    clear a0 a1 a2
    go_loopw [53] (fun i wx=>∃ j:Nat,j<=4∧i=.int .i64 (j:Int)∧EW w wx w1.heap.size w.heap.size (w1.heap.size+1) W H T (loop1 W H T k++arTo W H T (k:Int) (whX W H T (k:Int)) (whY W H T (k:Int)) j)) (fun i _=>4-(intOf i).toNat)
    case atStart=>exact ⟨0,by omega,rfl,by simpa [arTo] using E4.out⟩
    case round =>
     obtain ⟨j,hj,rfl,hw5⟩:=hrel
     have H5:=hd_ hw5
     clear hw5
     by_cases hj4:j<4
     ·have hix:=around_at (whX W H T (k:Int)) (whY W H T (k:Int)) hj4
      have hla:=arTo_len (W:=W) (H:=H) (T:=T) (n:=(k:Int)) (x:=whX W H T (k:Int)) (y:=whY W H T (k:Int)) HH.out.2.2.2 j
      have HLA:=hd_ hla
      clear hla
      go_wp2_with (go_at_call 66;refine (meet_any w _ _ _ _ W H T _ _ _ (arC j) _ (H5.out.keep (bn_ _ _)) HO.out (arC_lt j) (by have:=HLA.out;have:=HL1.out;simp;omega)).mono ?_;rintro e w6 ⟨rfl,hw6,hk6⟩)
      go_roundw
      case rel =>
       refine ⟨j+1,by omega,by go_num,?_⟩
       simp only [arTo]
       rw [<- List.append_assoc]
       exact hw6
      case measure=>simp [intOf];omega
     ·obtain rfl:j=4:=by omega
      go_wp2
      go_roundw
      case rel =>
       refine ⟨k+1,by omega,by go_num,?_⟩
       have e:nodeL W H T (k:Int)=arTo W H T (k:Int) (whX W H T (k:Int)) (whY W H T (k:Int)) 4:=by unfold nodeL;rw [if_pos hc]
       simp only [loop1,e]
       exact H5.out
      case measure=>simp [intOf];omega
   ·obtain ⟨j,hj⟩:∃ j:Nat,whT W H T (k:Int)=(j:Int):=⟨(whT W H T (k:Int)).toNat,by omega⟩
    have hj4:j<4:=by have:=BK.out hc;omega
    have hix:=around_at (whX W H T (k:Int)) (whY W H T (k:Int)) hj4
    go_wp2_with (first
     | (go_at_call 69;refine (what_any _ _ _ _ _).mono ?_;rintro e w3 ⟨rfl,hb3⟩;have E3:=hd_ (HW.out.keep hb3))
     | (go_at_call 70;refine (around_any _ _ _ (by omega) (by omega)).mono ?_;rintro e w4 ⟨rfl,hb4⟩;have E4:=hd_ (E3.out.keep hb4))
     | (go_at_call 66;refine (meet_any w _ _ _ _ W H T _ _ _ (arC j) _ E4.out HO.out (arC_lt j) (by have:=HL1.out;omega)).mono ?_;rintro e w6 ⟨rfl,hw6,hk6⟩))
    go_roundw
    case rel =>
     refine ⟨k+1,by omega,by go_num,?_⟩
     have e:nodeL W H T (k:Int)=meetTo W H T (k:Int) (arC j) (arX (whX W H T (k:Int)) j) (arY (whY W H T (k:Int)) j) T.toNat:=by
      unfold nodeL;rw [if_neg (by omega),if_pos hc,hj,Int.toNat_natCast]
     simp only [loop1,e]
     exact hw6
    case measure=>simp [intOf];omega
   ·go_wp2_with (first
     | (go_at_call 69;refine (what_any _ _ _ _ _).mono ?_;rintro e w3 ⟨rfl,hb3⟩;have E3:=hd_ (HW.out.keep hb3);have x0:=E3.out.arch.cell 0;have x1:=E3.out.arch.cell 1;have x2:=E3.out.arch.cell 2)
     | (go_at_call 71;refine (border_any W H T _ _ HO.out (by omega)).mono ?_;rintro e w4 ⟨rfl,hb4⟩;have E4:=hd_ (E3.out.keep hb4))
     | (go_at_call 66;refine (meet_any w _ _ _ _ W H T _ _ _ (brC W H (whX W H T (k:Int))) _ E4.out HO.out (brC_lt _ _ _) (by have:=HL1.out;omega)).mono ?_;rintro e w6 ⟨rfl,hw6,hk6⟩))
    go_roundw
    case rel =>
     refine ⟨k+1,by omega,by go_num,?_⟩
     have e:nodeL W H T (k:Int)=meetTo W H T (k:Int) (brC W H (whX W H T (k:Int))) (brX W H (whX W H T (k:Int))) (brY W H (whX W H T (k:Int))) T.toNat:=by
      unfold nodeL;rw [if_neg (by omega),if_neg (by omega),if_pos hc]
     simp only [loop1,e]
     exact hw6
    case measure=>simp [intOf];omega
   ·go_wp2_with (go_at_call 69;refine (what_any _ _ _ _ _).mono ?_;rintro e w3 ⟨rfl,hb3⟩;have E3:=hd_ (HW.out.keep hb3))
    go_roundw
    case rel =>
     refine ⟨k+1,by omega,by go_num,?_⟩
     have e:nodeL W H T (k:Int)=[]:=by unfold nodeL;rw [if_neg (by omega),if_neg (by omega),if_neg (by omega)]
     simp only [loop1,e,List.append_nil]
     exact E3.out
    case measure=>simp [intOf];omega
   ·go_wp2_with (go_at_call 69;refine (what_any _ _ _ _ _).mono ?_;rintro e w3 ⟨rfl,hb3⟩;have E3:=hd_ (HW.out.keep hb3))
    go_roundw
    case rel =>
     refine ⟨k+1,by omega,by go_num,?_⟩
     have e:nodeL W H T (k:Int)=[]:=by unfold nodeL;rw [if_neg (by omega),if_neg (by omega),if_neg (by omega)]
     simp only [loop1,e,List.append_nil]
     exact E3.out
    case measure=>simp [intOf];omega
  ·obtain rfl:k=N:=by omega
   have a0:wr.cell? ⟨w.heap.size,0,none⟩=some (.int .i64 W):=hw.arch.cell 0
   have a1:wr.cell? ⟨w.heap.size,1,none⟩=some (.int .i64 H):=hw.arch.cell 1
   have a2:wr.cell? ⟨w.heap.size,2,none⟩=some (.int .i64 T):=hw.arch.cell 2
   have HW:=hd_ hw
   clear hw
   have hw16:W<=16:=HH.out.1.2
   have hw1:1<=W:=HH.out.1.1
   obtain ⟨X1,hX1⟩:∃ X1,loop1 W H T k=X1:=⟨_,rfl⟩
   have HX1:=hd_ hX1
   have l1:X1.length<=10000000:=by have:=loop1_len (W:=W) (H:=H) (T:=T) HH.out.2.2.2 k;rw [HX1.out] at this;omega
   have HW1:Hid (EW w wr w1.heap.size w.heap.size (w1.heap.size+1) W H T (X1)):=by have:=HW.out;rw [HX1.out] at this;exact hd_ this
   clear HW hX1
   go_wp2
   go_loopw [83] (fun i wx=>∃ x:Nat,(x:Int)<=W+1∧i=.int .i64 (x:Int)∧EW w wx w1.heap.size w.heap.size (w1.heap.size+1) W H T (X1++xTo W H T x)) (fun i _=>(W+1-intOf i).toNat)
   case atStart=>exact ⟨0,by omega,rfl,by simpa [xTo] using HW1.out⟩
   case round =>
    clear a0 a1 a2 HW1
    obtain ⟨x,hxW,rfl,hw⟩:=hrel
    have a0:wr.cell? ⟨w.heap.size,0,none⟩=some (.int .i64 W):=hw.arch.cell 0
    have a1:wr.cell? ⟨w.heap.size,1,none⟩=some (.int .i64 H):=hw.arch.cell 1
    have a2:wr.cell? ⟨w.heap.size,2,none⟩=some (.int .i64 T):=hw.arch.cell 2
    have HW:=hd_ hw
    clear hw
    by_cases hx:(x:Int)<W+1
    ·obtain ⟨X2,hX2⟩:∃ X2,X1++xTo W H T x=X2:=⟨_,rfl⟩
     have HX2:=hd_ hX2
     have l2:X2.length<=11000000:=by have:=xTo_len (W:=W) HH.out.2.1.2 HH.out.2.2.2 x;rw [<- HX2.out,List.length_append];omega
     have HW2:Hid (EW w wr w1.heap.size w.heap.size (w1.heap.size+1) W H T (X2)):=by have:=HW.out;rw [HX2.out] at this;exact hd_ this
     clear HW hX2
     have hh1:1<=H:=HH.out.2.1.1
     have hh2:H<=16:=HH.out.2.1.2
     go_wp2
     go_loopw [89] (fun i wx=>∃ y:Nat,(y:Int)<=H+1∧i=.int .i64 (y:Int)∧EW w wx w1.heap.size w.heap.size (w1.heap.size+1) W H T (X2++yTo W H T (x:Int) y)) (fun i _=>(H+1-intOf i).toNat)
     case atStart=>exact ⟨0,by omega,rfl,by simpa [yTo] using HW2.out⟩
     case round =>
      clear a0 a1 a2 HW2
      obtain ⟨y,hyH,rfl,hw⟩:=hrel
      have a0:wr.cell? ⟨w.heap.size,0,none⟩=some (.int .i64 W):=hw.arch.cell 0
      have a1:wr.cell? ⟨w.heap.size,1,none⟩=some (.int .i64 H):=hw.arch.cell 1
      have a2:wr.cell? ⟨w.heap.size,2,none⟩=some (.int .i64 T):=hw.arch.cell 2
      have HW:=hd_ hw
      clear hw
      by_cases hy:(y:Int)<H+1
      ·obtain ⟨X3,hX3⟩:∃ X3,X2++yTo W H T (x:Int) y=X3:=⟨_,rfl⟩
       have HX3:=hd_ hX3
       have l3:X3.length<=12000000:=by have:=yTo_len (W:=W) (H:=H) (x:=(x:Int)) HH.out.2.2.2 y;rw [<- HX3.out,List.length_append];omega
       have HW3:Hid (EW w wr w1.heap.size w.heap.size (w1.heap.size+1) W H T (X3)):=by have:=HW.out;rw [HX3.out] at this;exact hd_ this
       clear HW hX3
       have ht1:1<=T:=HH.out.2.2.1
       have ht2:T<=16:=HH.out.2.2.2
       go_wp2
       go_loopw [94] (fun i wx=>∃ t:Nat,(t:Int)<=T∧i=.int .i64 (t:Int)∧EW w wx w1.heap.size w.heap.size (w1.heap.size+1) W H T (X3++tTo W H T (x:Int) (y:Int) t)) (fun i _=>(T-intOf i).toNat)
       case atStart=>exact ⟨0,by omega,rfl,by simpa [tTo] using HW3.out⟩
       case round =>
        clear a0 a1 a2 HW3
        obtain ⟨t,htT,rfl,hw⟩:=hrel
        have HW:=hd_ hw
        clear hw
        by_cases ht:(t:Int)<T
        ·obtain ⟨X4,hX4⟩:∃ X4,X3++tTo W H T (x:Int) (y:Int) t=X4:=⟨_,rfl⟩
         have HX4:=hd_ hX4
         have l4:X4.length<=13000000:=by have:=tTo_len W H T (x:Int) (y:Int) t;rw [<- HX4.out,List.length_append];omega
         have HW4:Hid (EW w wr w1.heap.size w.heap.size (w1.heap.size+1) W H T (X4)):=by have:=HW.out;rw [HX4.out] at this;exact hd_ this
         clear HW hX4
         have HCB:=hd_ (corner_built (x:Int) (y:Int))
         go_wp2_with ((with_reducible refine wpList_build_to rfl 114 _ rfl _ rfl (cornerC (x:Int) (y:Int)).toArray ?_ ?_);(· exact HCB.out))
         clear HCB
         go_loopw [19,112] (fun hv i wx=>∃ p:Nat,p<=4∧i=.int .i64 (p:Int)∧EW w wx w1.heap.size w.heap.size (w1.heap.size+1) W H T (X4++cornerTo W H T (x:Int) (y:Int) (t:Int) p)∧wx.ownsRow w.heap.size 3 1 hv (hereTo W H T (x:Int) (y:Int) (t:Int) p).length (ic (hereTo W H T (x:Int) (y:Int) (t:Int) p))) (fun _ i _=>4-(intOf i).toNat)
         case atStart=>exact ⟨0,by omega,rfl,by simpa [cornerTo] using HW4.out,by simp [hereTo,ic],.inl ⟨rfl,by simp [hereTo]⟩⟩
         case round =>
          clear HW4
          obtain ⟨p,hp,rfl,hw,hown⟩:=hrel
          obtain ⟨hA,hcp,rfl⟩:=own_slice hown
          have HW:=hd_ hw
          have HOW:=hd_ hown
          have a0:wr.cell? ⟨w.heap.size,0,none⟩=some (.int .i64 W):=hw.arch.cell 0
          have a1:wr.cell? ⟨w.heap.size,1,none⟩=some (.int .i64 H):=hw.arch.cell 1
          have a2:wr.cell? ⟨w.heap.size,2,none⟩=some (.int .i64 T):=hw.arch.cell 2
          have hAlt:w.heap.size<wr.heap.size:=hw.arch.lt
          clear hw hown
          by_cases hp4:p<4
          ·have hix:=corner_at (x:Int) (y:Int) hp4
           rcases nodeE_01 W H T (coC p) (coX (x:Int) p) (coY (y:Int) p) (t:Int) with he|he
           ·go_wp2_with (go_at_call 67;refine (node_any _ _ _ _ _ _ (coC p) _ (coC_lt p)).mono ?_;rintro e w3 ⟨rfl,hb3⟩;have E3:=hd_ ((HW.out.keep (bn_ _ _)).keep hb3);have O3:=hd_ (own_keep (HOW.out.alloc _) hb3))
            clear hix a0 a1 a2
            obtain ⟨L,hL⟩:∃ L,hereTo W H T (x:Int) (y:Int) (t:Int) p=L:=⟨_,rfl⟩
            obtain ⟨X5,hX5⟩:∃ X5,X4++cornerTo W H T (x:Int) (y:Int) (t:Int) p=X5:=⟨_,rfl⟩
            obtain ⟨NN,hNN⟩:∃ NN,nodeN W H T (coC p) (coX (x:Int) p) (coY (y:Int) p) (t:Int)=NN:=⟨_,rfl⟩
            have l5:X5.length<=14000000:=by have:=cornerTo_len W H T (x:Int) (y:Int) (t:Int) p;have h16:p*p<=16:=Nat.mul_le_mul (show p<=4 by omega) (show p<=4 by omega);rw [<- hX5,List.length_append];omega
            have lL:L.length<=4:=by have:=hereTo_len W H T (x:Int) (y:Int) (t:Int) p;rw [hL] at this;omega
            rw [hL] at O3
            rw [hX5] at E3
            simp only [hL,hNN]
            have HL:=hd_ hL
            have HX5:=hd_ hX5
            have HNN:=hd_ hNN
            clear hL hX5 hNN HW HOW
            go_loopw [131] (fun i wx=>∃ q:Nat,q<=L.length∧i=.int .i64 (q:Int)∧EW w wx w1.heap.size w.heap.size (w1.heap.size+1) W H T (X5++(L.take q).map (fun m=>(lo m NN,hi m NN)))∧wx.ownsRow w.heap.size 3 1 (.slice hA L.length hcp) L.length (ic L)) (fun i _=>L.length-(intOf i).toNat)
            case atStart=>exact ⟨0,by omega,rfl,by simpa using E3.out,O3.out⟩
            case round =>
             clear E3 O3 hb3
             obtain ⟨q,hq,rfl,hw,hown⟩:=hrel
             have HW:=hd_ hw
             have HOW:=hd_ hown
             have j0:wr.cell? ⟨w1.heap.size+1,0,none⟩=some (.func (.func 65) #[] #[.pointer (some ⟨w1.heap.size,0,none⟩)]):=hw.join.cell 0
             have hbs:w.heap.size<=wr.heap.size:=hw.below.size
             clear hw hown
             by_cases hqL:q<L.length
             ·obtain ⟨g,rfl,hcl⟩:=own_cell HOW.out hqL
              go_wp2_with (go_at_call 65;refine (join_any w _ _ _ _ W H T _ _ _ HW.out (by simp;omega)).mono ?_;rintro e w6 ⟨rfl,hw6,hk6⟩)
              go_roundw
              case rel =>
               refine ⟨q+1,by omega,by go_num,?_,own_keeps HOW.out hk6⟩
               have et:L.take (q+1)=L.take q++[L[q]]:=List.take_succ_eq_append_getElem hqL
               rw [et,List.map_append,<- List.append_assoc]
               exact hw6
              case measure=>simp [intOf];omega
             ·obtain ⟨i0,hi0,hz0,hz1,hz2⟩:=info_parts int_info
              have HI:=hd_ hi0
              have HZ0:=hd_ hz0
              have HZ1:=hd_ hz1
              have HZ2:=hd_ hz2
              have hqe:q=L.length:=by omega
              have HQ:=hd_ hqe
              clear hi0 hz0 hz1 hz2 hqe
              go_wp2_with (at_builtin;refine wpList_append_own _ rfl (.tmp 140) (.tmp 142) 25 rfl w.heap.size 3 i0 (.int .i64 0) 1 8 Tryz.underlying25 HI.out HZ0.out HZ1.out HZ2.out rfl (by decide) (.slice hA L.length hcp) L.length (ic L) rfl (HOW.out.alloc _) ⟨wr.heap.size,0,none⟩ 1 1 [.int .i64 NN] rfl rfl ?c1 ?c2 ?c3 ?c4 ?c5 ?_)
              case c1 =>
               intro j u hj
               rcases j with _|j
               ·simp at hj;subst hj;go_simp
               ·simp at hj
              case c2 =>
               intro u hu
               simp at hu
               subst hu
               rfl
              case c3=>unfold maxLen;omega
              case c4=>omega
              case c5=>simp;omega
              intro v' w7 hown7 hg7 hnil
              have E7:=hd_ ((HW.out.keep (bn_ _ _)).grown (HOW.out.alloc _) hg7)
              have O7:=hd_ hown7
              clear hown7 hg7 hnil
              go_wp2
              go_roundw
              case rel =>
               have ec:cornerTo W H T (x:Int) (y:Int) (t:Int) (p+1)=cornerTo W H T (x:Int) (y:Int) (t:Int) p++L.map (fun m=>(lo m NN,hi m NN)):=by simp only [cornerTo,if_pos he,HL.out,HNN.out]
               have eh:hereTo W H T (x:Int) (y:Int) (t:Int) (p+1)=L++[NN]:=by simp only [hereTo,if_pos he,HL.out,HNN.out]
               refine ⟨p+1,by omega,by go_num,?_,?_⟩
               ·have h7:=E7.out
                rw [HQ.out,List.take_length] at h7
                rw [ec,<- List.append_assoc,HX5.out]
                exact h7
               ·rw [eh]
                have h7:=O7.out
                simpa [ic] using h7
              case measure=>simp [intOf];omega
           ·go_wp2_with (go_at_call 67;refine (node_any _ _ _ _ _ _ (coC p) _ (coC_lt p)).mono ?_;rintro e w3 ⟨rfl,hb3⟩;have E3:=hd_ ((HW.out.keep (bn_ _ _)).keep hb3);have O3:=hd_ (own_keep (HOW.out.alloc _) hb3))
            go_roundw
            case rel =>
             have hne:¬ nodeE W H T (coC p) (coX (x:Int) p) (coY (y:Int) p) (t:Int)=0:=by omega
             have ec:cornerTo W H T (x:Int) (y:Int) (t:Int) (p+1)=cornerTo W H T (x:Int) (y:Int) (t:Int) p:=by simp only [cornerTo,if_neg hne,List.append_nil]
             have eh:hereTo W H T (x:Int) (y:Int) (t:Int) (p+1)=hereTo W H T (x:Int) (y:Int) (t:Int) p:=by simp only [hereTo,if_neg hne,List.append_nil]
             refine ⟨p+1,by omega,by go_num,?_,?_⟩
             ·rw [ec];exact E3.out
             ·rw [eh];exact O3.out
            case measure=>simp [intOf];omega
          ·obtain rfl:p=4:=by omega
           go_wp2
           go_roundw
           case rel =>
            refine ⟨t+1,by omega,by go_num,?_⟩
            simp only [tTo]
            rw [<- List.append_assoc,HX4.out]
            exact HW.out
           case measure=>simp [intOf];omega
        ·have ht3:(t:Int)=T:=by omega
         have HT3:=hd_ ht3
         clear ht3
         go_wp2
         go_roundw
         case rel =>
          refine ⟨y+1,by omega,by go_num,?_⟩
          simp only [yTo]
          rw [<- List.append_assoc,HX3.out,<- HT3.out,Int.toNat_natCast,HT3.out]
          exact HW.out
         case measure=>simp [intOf];omega
      ·have hy3:(y:Int)=H+1:=by omega
       have HY3:=hd_ hy3
       clear hy3
       go_wp2
       go_roundw
       case rel =>
        refine ⟨x+1,by omega,by go_num,?_⟩
        simp only [xTo]
        rw [<- List.append_assoc,HX2.out,<- HY3.out,Int.toNat_natCast]
        exact HW.out
       case measure=>simp [intOf];omega
    ·have hx3:(x:Int)=W+1:=by omega
     have hraw:X1++xTo W H T x=rawL W H T:=by
      unfold rawL
      rw [hN,Int.toNat_natCast,HX1.out,<- hx3,Int.toNat_natCast]
     have hw2:=HW.out
     rw [hraw] at hw2
     have HR:=hd_ hw2
     have HO2:=HO.out
     have hpos:=rawL_pos HO2
     have hlen:=rawL_len HO2
     obtain ⟨v,hv1,hv2⟩:=hw2.out
     obtain ⟨AA,c,rfl⟩:=own_slice hv2
     have c0:wr.cell? ⟨w1.heap.size,0,none⟩=some (.slice AA (rawL W H T).length c):=hv1.cell 0
     have S0:=hd_ (sort_any w wr _ _ _ W H T (rawL W H T) hw2 hpos (by omega) _ hv1 hv2)
     clear hw2 hv1 hv2 hraw hx3 HO2 hpos hlen HW a0 a1 a2
     go_wp2_with (go_at_call 72;refine S0.out.mono ?_;rintro e w8 ⟨rfl,hb8,hv8,ho8⟩;have c8:=hv8.cell 0)
     go_ret2
     refine ⟨_,rfl,hb8,?_⟩
     unfold edgesL
     rw [sortP_length]
     exact ho8
end Go.Proofs.YtmkiphadkmodnaaGreat
