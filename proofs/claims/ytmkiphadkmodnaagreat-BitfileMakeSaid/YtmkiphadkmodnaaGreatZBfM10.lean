/- BfM, 10 -/
import Derived.BigQuiet
import Derived.Deep.QuietTactic
import Derived.Deep.RegionHeld3
import Derived.Deep.DrawnRows
import Derived.Test.YtmkiphadkmodnaaGreatZBfM0
set_option linter.all false
set_option maxRecDepth 100000
set_option maxHeartbeats 8000000
namespace Go.Proofs.YtmkiphadkmodnaaGreat
open Go.RowKit
def el3 (W H T:Int):Nat->Int
 | 0=>W
 | 1=>H
 | _=>T
theorem el3_ok {W H T:Int} (h:okA W H T) (k:Nat):1<=el3 W H T k∧el3 W H T k<=16:=by
 unfold okA at h
 rcases k with _|_|k <;> simp only [el3] <;> omega
theorem el3_cell (W H T:Int) {k:Nat} (hk:k<3) (h:k<[Value.int .i64 W,.int .i64 H,.int .i64 T].length):[Value.int .i64 W,.int .i64 H,.int .i64 T][k]'h=.int .i64 (el3 W H T k):=by
 have:k=0∨k=1∨k=2:=by omega
 rcases this with rfl|rfl|rfl <;> rfl
theorem rcheck_yes (W H T:Int) (w:World) (h:okA W H T) :
  Calls Tryz.prog 83 #[.agg #[.int .i64 W,.int .i64 H,.int .i64 T]] w fun e w'=>e=.returned (.int .i64 0)∧Below w.heap.size w w':=by
 have H0:=hd_ h
 clear h
 go_enter Tryz.func83,Tryz.ntmps83
 go_wp2
 go_loop [4,13] (fun n i=>∃ k:Nat,k<=3∧i=.int .i64 (k:Int)) (fun _ i=>3-(intOf i).toNat)
 case atStart=>exact ⟨0,by omega,rfl⟩
 case round =>
  obtain ⟨k,hk,rfl⟩:=hrel
  by_cases hlt:k<3
  ·have hc:=el3_cell W H T hlt
   have hb:=el3_ok H0.out k
   go_wp2
   go_round
   case rel=>exact ⟨k+1,by omega,by go_num⟩
   case measure=>simp [intOf];omega
  ·go_wp2
   go_ret
   exact ⟨rfl,(br_.alloc (Nat.le_refl _) _).alloc (by simp) _⟩
theorem rcheck_no (W H T:Int) (w:World) (h:¬ okA W H T) :
  Calls Tryz.prog 83 #[.agg #[.int .i64 W,.int .i64 H,.int .i64 T]] w fun e w'=>e=.returned (.int .i64 1)∧Below w.heap.size w w':=by
 have H0:=hd_ h
 clear h
 have hfin:Below w.heap.size w ((w.alloc (.cells #[.int .i64 W,.int .i64 H,.int .i64 T] 23)).alloc (.cells #[.int .i64 W,.int .i64 H,.int .i64 T] 3)):=(br_.alloc (Nat.le_refl _) _).alloc (by simp) _
 go_enter Tryz.func83,Tryz.ntmps83
 go_wp2
 go_loop [4,13] (fun n i=>∃ k:Nat,k<=3∧i=.int .i64 (k:Int)∧∀ j,j<k->1<=el3 W H T j∧el3 W H T j<=16) (fun _ i=>3-(intOf i).toNat)
 case atStart=>exact ⟨0,by omega,rfl,fun _ h=>absurd h (by omega)⟩
 case round =>
  obtain ⟨k,hk,rfl,hall⟩:=hrel
  have HA:=hd_ hall
  clear hall
  by_cases hlt:k<3
  ·have hc:=el3_cell W H T hlt
   by_cases c1:el3 W H T k<1
   ·go_wp2
    go_ret
    exact ⟨rfl,hfin⟩
   ·by_cases c2:16<el3 W H T k
    ·go_wp2
     go_ret
     exact ⟨rfl,hfin⟩
    ·go_wp2
     go_round
     case rel =>
      refine ⟨k+1,by omega,by go_num,fun j hj=>?_⟩
      by_cases e:j=k
      ·subst e;omega
      ·exact HA.out j (by omega)
     case measure=>simp [intOf];omega
  ·exfalso
   obtain rfl:k=3:=by omega
   have h0:=HA.out 0 (by omega)
   have h1:=HA.out 1 (by omega)
   have h2:=HA.out 2 (by omega)
   exact H0.out ⟨h0,h1,h2⟩
theorem rcheck_any (W H T:Int) (w:World) :
  Calls Tryz.prog 83 #[.agg #[.int .i64 W,.int .i64 H,.int .i64 T]] w fun e w'=>e=.returned (.int .i64 (chkE W H T))∧Below w.heap.size w w':=by
 unfold chkE
 by_cases h:okA W H T
 ·rw [if_pos h];exact rcheck_yes W H T w h
 ·rw [if_neg h];exact rcheck_no W H T w h
theorem rpads_yes (W H T:Int) (w:World) (h:okA W H T) :
  Calls Tryz.prog 127 #[.agg #[.int .i64 W,.int .i64 H,.int .i64 T]] w fun e w'=>e=.returned (.int .i64 (2*W+2*H))∧Below w.heap.size w w':=by
 have hh:=h
 unfold okA at hh
 go_enter Tryz.func127,Tryz.ntmps127
 go_wp2_with (go_at_call 83;refine (rcheck_yes W H T _ h).mono ?_;rintro e w1 ⟨rfl,hb1⟩;obtain ⟨hc1,hf1⟩:=bcell hb1)
 go_ret
 exact ⟨rfl,(br_.alloc (Nat.le_refl _) _).trans (hb1.mono (by simp))⟩
def inB (n m:Int):Bool:=decide (0<=n∧n<m)
theorem in_any (n m:Int) (w:World) :
  Calls Tryz.prog 126 #[.int .i64 n,.int .i64 m] w fun e w'=>e=.returned (.bool (inB n m))∧w=w':=by
 by_cases h1:0<=n
 ·by_cases h2:n<m
  ·have HB:=hd_ (show inB n m=true from by simp [inB];omega)
   go_enter Tryz.func126,Tryz.ntmps126
   go_wp2
   go_ret
   exact ⟨by rw [HB.out];rfl,rfl⟩
  ·have HB:=hd_ (show inB n m=false from by simp [inB];omega)
   go_enter Tryz.func126,Tryz.ntmps126
   go_wp2
   go_ret
   exact ⟨by rw [HB.out];rfl,rfl⟩
 ·have HB:=hd_ (show inB n m=false from by simp [inB];omega)
  go_enter Tryz.func126,Tryz.ntmps126
  go_wp2
  go_ret
  exact ⟨by rw [HB.out];rfl,rfl⟩
end Go.Proofs.YtmkiphadkmodnaaGreat
namespace Go.Proofs.YtmkiphadkmodnaaGreat
open Go.RowKit
attribute [local go_sem ↓] Go.wp_at_zero Go.wp_at_succ
def rb (W H T:Int):Nat->Int
 | 0=>0
 | k+1=>gat W H T k
def re (W H T:Int):Nat->Int
 | 0=>0
 | 1=>W*H
 | 2=>4*W*H
 | 3=>2*W+2*H
 | 4=>W*(H+1)*T
 | _=>(W+1)*H*T
theorem lt6 {k:Nat} (h:k<6):k=0∨k=1∨k=2∨k=3∨k=4∨k=5:=by omega
theorem rb_succ (W H T:Int) {k:Nat} (hk:k<6):rb W H T (k+1)=rb W H T k+re W H T k:=by
 rcases lt6 hk with rfl|rfl|rfl|rfl|rfl|rfl
 ·rfl
 ·simp [rb,re,gat,gmany,gw,gh,gd]
 ·simp only [rb,re,gat,gmany,gw,gh,gd]
  rw [Int.mul_assoc 4 W H,Int.mul_comm 4]
 ·simp [rb,re,gat,gmany,gw,gh,gd]
 ·simp [rb,re,gat,gmany,gw,gh,gd]
 ·simp [rb,re,gat,gmany,gw,gh,gd]
theorem rb_bd {W H T:Int} (h:okA W H T) {k:Nat} (hk:k<=6):0<=rb W H T k∧rb W H T k<=87040:=by
 rcases k with _|k
 ·simp [rb]
 ·have:=gat_bd h (k:=k) (by omega)
  simp only [rb];omega
theorem re_bd {W H T:Int} (h:okA W H T) {k:Nat} (hk:k<6):0<=re W H T k∧re W H T k<=17408:=by
 rcases k with _|k
 ·simp [re]
 ·have:=g_bd2 h (k:=k) (by omega)
  have e:=rb_succ W H T hk
  simp only [rb,gat,gmany] at e
  omega
theorem re_cell (W H T:Int) {k:Nat} (hk:k<6) (h:k<[Value.int .i64 0,.int .i64 (W*H),.int .i64 (4*W*H),.int .i64 (2*W+2*H),.int .i64 (W*(H+1)*T),.int .i64 ((W+1)*H*T)].length) :
  [Value.int .i64 0,.int .i64 (W*H),.int .i64 (4*W*H),.int .i64 (2*W+2*H),.int .i64 (W*(H+1)*T),.int .i64 ((W+1)*H*T)][k]'h=.int .i64 (re W H T k):=by
 rcases lt6 hk with rfl|rfl|rfl|rfl|rfl|rfl <;> rfl
theorem begin_yes (W H T:Int) (c:Nat) (w:World) (h:okA W H T) (hc:c<=6) :
  Calls Tryz.prog 128 #[.agg #[.int .i64 W,.int .i64 H,.int .i64 T],.int .i64 (c:Int)] w fun e w'=>e=.returned (.int .i64 (rb W H T c))∧Below w.heap.size w w':=by
 have HO:=hd_ h
 have hh:=h
 unfold okA at hh
 have p0:=g_bd2 h (k:=0) (by omega)
 have p3:=g_bd2 h (k:=3) (by omega)
 have p4:=g_bd2 h (k:=4) (by omega)
 have q2:=re_bd h (k:=2) (by omega)
 simp only [gw,gh,gd,re] at p0 p3 p4 q2
 have e1:IntKind.i64.wrap (W*H)=W*H:=IntWalk.i64_in _ (by omega)
 have e2:IntKind.i64.wrap (4*W)=4*W:=IntWalk.i64_in _ (by omega)
 have e3:IntKind.i64.wrap (4*W*H)=4*W*H:=IntWalk.i64_in _ (by omega)
 have e4:IntKind.i64.wrap (H+1)=H+1:=IntWalk.i64_in _ (by omega)
 have e5:IntKind.i64.wrap (W*(H+1))=W*(H+1):=IntWalk.i64_in _ (by omega)
 have e6:IntKind.i64.wrap (W*(H+1)*T)=W*(H+1)*T:=IntWalk.i64_in _ (by omega)
 have e7:IntKind.i64.wrap (W+1)=W+1:=IntWalk.i64_in _ (by omega)
 have e8:IntKind.i64.wrap ((W+1)*H)=(W+1)*H:=IntWalk.i64_in _ (by omega)
 have e9:IntKind.i64.wrap ((W+1)*H*T)=(W+1)*H*T:=IntWalk.i64_in _ (by omega)
 go_enter Tryz.func128,Tryz.ntmps128
 go_wp2
 go_region_held3 (fun w'=>w'.cell? ⟨w.heap.size,0,none⟩=some (.int .i64 W)∧w'.cell? ⟨w.heap.size,1,none⟩=some (.int .i64 H)∧w'.cell? ⟨w.heap.size,2,none⟩=some (.int .i64 T)) (go_keep) ((go_at_call 127;refine (rpads_yes _ _ _ _ HO.out).mono ?_;rintro e w3 ⟨rfl,hb3⟩;obtain ⟨hc3,hf3⟩:=bcell hb3))
 clear e1 e2 e3 e4 e5 e6 e7 e8 e9 hc3 hf3
 have hbx:Below w.heap.size w w3:=(br_.alloc (Nat.le_refl _) _).drew.trans (hb3.mono (B':=w.heap.size) (by simp))
 clear hb3
 have hci:(0:Int)<=(c:Int):=by omega
 have hci2:(c:Int)<=6:=by omega
 go_wp2
 go_loop [6,45] (fun n i=>∃ k:Nat,k<=c∧i=.int .i64 (k:Int)∧n=.int .i64 (rb W H T k)) (fun _ i=>c-(intOf i).toNat)
 case atStart=>exact ⟨0,by omega,rfl,rfl⟩
 case round =>
  obtain ⟨k,hk,rfl,rfl⟩:=hrel
  by_cases hlt:k<c
  ·have hk6:k<6:=by omega
   have hcl:=re_cell W H T (k:=k) (by omega)
   have hq:=rb_bd HO.out (k:=k) (by omega)
   have hq2:=re_bd HO.out (k:=k) (by omega)
   go_wp2
   go_round
   case rel=>exact ⟨k+1,by omega,by go_num,by rw [rb_succ W H T (by omega)]⟩
   case measure=>simp [intOf];omega
  ·obtain rfl:k=c:=by omega
   go_wp2
   go_ret
   exact ⟨rfl,hbx.alloc hbx.size _⟩
end Go.Proofs.YtmkiphadkmodnaaGreat
namespace Go.Proofs.YtmkiphadkmodnaaGreat
open Go.RowKit
attribute [local go_sem ↓] Go.wp_at_zero Go.wp_at_succ
theorem begin_i (W H T:Int) (c:Nat) (z:Int) (hz:z=(c:Int)) (w:World) (h:okA W H T) (hc:c<=6) :
  Calls Tryz.prog 128 #[.agg #[.int .i64 W,.int .i64 H,.int .i64 T],.int .i64 z] w fun e w'=>e=.returned (.int .i64 (rb W H T c))∧Below w.heap.size w w':=by
 subst hz
 exact begin_yes W H T c w h hc
theorem rnodes_any (W H T:Int) (w:World) :
  Calls Tryz.prog 110 #[.agg #[.int .i64 W,.int .i64 H,.int .i64 T]] w fun e w'=>e=.returned (.int .i64 (nodesO W H T))∧Below w.heap.size w w':=by
 unfold nodesO
 by_cases h:okA W H T
 ·rw [if_pos h]
  go_enter Tryz.func110,Tryz.ntmps110
  go_wp2_with (first
   | (go_at_call 83;refine (rcheck_yes W H T _ h).mono ?_;rintro e w1 ⟨rfl,hb1⟩;obtain ⟨hc1,hf1⟩:=bcell hb1)
   | (go_at_call 128;refine (begin_i W H T 6 _ rfl _ h (by omega)).mono ?_;rintro e w2 ⟨rfl,hb2⟩))
  go_ret
  exact ⟨rfl,((br_.alloc (Nat.le_refl _) _).trans (hb1.mono (by simp))).trans (hb2.mono (by have:=hb1.size;simp at this;omega))⟩
 ·rw [if_neg h]
  go_enter Tryz.func110,Tryz.ntmps110
  go_wp2_with (go_at_call 83;refine (rcheck_no W H T _ h).mono ?_;rintro e w1 ⟨rfl,hb1⟩)
  go_ret
  exact ⟨rfl,(br_.alloc (Nat.le_refl _) _).trans (hb1.mono (by simp))⟩
theorem rout_bad (W H T x y:Int) (w:World) (h:¬ okA W H T) :
  Calls Tryz.prog 108 #[.agg #[.int .i64 W,.int .i64 H,.int .i64 T],.int .i64 x,.int .i64 y] w fun e w'=>e=.returned (pairV (nodeN W H T 0 x y 0) (nodeE W H T 0 x y 0))∧Below w.heap.size w w':=by
 have HN:=hd_ (show nodeN W H T 0 x y 0=0 from by unfold nodeN;rw [if_neg (fun hh=>h hh.1)])
 have HE:=hd_ (show nodeE W H T 0 x y 0=1 from by unfold nodeE;rw [if_neg (fun hh=>h hh.1)])
 go_enter Tryz.func108,Tryz.ntmps108
 go_wp2_with (go_at_call 83;refine (rcheck_no W H T _ h).mono ?_;rintro e w1 ⟨rfl,hb1⟩)
 go_ret2
 exact ⟨by rw [HN.out,HE.out];rfl,(br_.alloc (Nat.le_refl _) _).trans (hb1.mono (by simp))⟩
theorem rout_o0 (W H T x y:Int) (w:World) (h:okA W H T) (t0:inB x (W)=false) :
  Calls Tryz.prog 108 #[.agg #[.int .i64 W,.int .i64 H,.int .i64 T],.int .i64 x,.int .i64 y] w fun e w'=>e=.returned (pairV (nodeN W H T 0 x y 0) (nodeE W H T 0 x y 0))∧Below w.heap.size w w':=by
 have hno:¬ inG W H T 0 x y 0:=by unfold inG;simp only [inB,decide_eq_true_eq,decide_eq_false_iff_not,gw,gh,gd] at *;omega
 have HN:=hd_ (show nodeN W H T 0 x y 0=0 from by unfold nodeN;rw [if_neg (fun hh=>hno hh.2)])
 have HE:=hd_ (show nodeE W H T 0 x y 0=1 from by unfold nodeE;rw [if_neg (fun hh=>hno hh.2)])
 clear hno
 have hh:=h
 unfold okA at hh
 go_enter Tryz.func108,Tryz.ntmps108
 go_wp2_with (first
  | (go_at_call 83;refine (rcheck_yes W H T _ h).mono ?_;rintro e w1 ⟨rfl,hb1⟩;obtain ⟨hc1,hf1⟩:=bcell hb1)
  | (go_at_call 126;refine (in_any _ _ _).mono ?_;rintro e wi ⟨rfl,rfl⟩))
 go_ret2
 exact ⟨by rw [HN.out,HE.out];rfl,(br_.alloc (Nat.le_refl _) _).trans (hb1.mono (by simp))⟩
theorem rout_o1 (W H T x y:Int) (w:World) (h:okA W H T) (t0:inB x (W)=true) (t1:inB y (H)=false) :
  Calls Tryz.prog 108 #[.agg #[.int .i64 W,.int .i64 H,.int .i64 T],.int .i64 x,.int .i64 y] w fun e w'=>e=.returned (pairV (nodeN W H T 0 x y 0) (nodeE W H T 0 x y 0))∧Below w.heap.size w w':=by
 have hno:¬ inG W H T 0 x y 0:=by unfold inG;simp only [inB,decide_eq_true_eq,decide_eq_false_iff_not,gw,gh,gd] at *;omega
 have HN:=hd_ (show nodeN W H T 0 x y 0=0 from by unfold nodeN;rw [if_neg (fun hh=>hno hh.2)])
 have HE:=hd_ (show nodeE W H T 0 x y 0=1 from by unfold nodeE;rw [if_neg (fun hh=>hno hh.2)])
 clear hno
 have hh:=h
 unfold okA at hh
 go_enter Tryz.func108,Tryz.ntmps108
 go_wp2_with (first
  | (go_at_call 83;refine (rcheck_yes W H T _ h).mono ?_;rintro e w1 ⟨rfl,hb1⟩;obtain ⟨hc1,hf1⟩:=bcell hb1)
  | (go_at_call 126;refine (in_any _ _ _).mono ?_;rintro e wi ⟨rfl,rfl⟩))
 go_ret2
 exact ⟨by rw [HN.out,HE.out];rfl,(br_.alloc (Nat.le_refl _) _).trans (hb1.mono (by simp))⟩
theorem rout_in (W H T x y:Int) (w:World) (h:okA W H T) (t0:inB x (W)=true) (t1:inB y (H)=true) :
  Calls Tryz.prog 108 #[.agg #[.int .i64 W,.int .i64 H,.int .i64 T],.int .i64 x,.int .i64 y] w fun e w'=>e=.returned (pairV (nodeN W H T 0 x y 0) (nodeE W H T 0 x y 0))∧Below w.heap.size w w':=by
 have hg:inG W H T 0 x y 0:=by unfold inG;simp only [inB,decide_eq_true_eq,decide_eq_false_iff_not,gw,gh,gd] at *;omega
 have HN:=hd_ (show nodeN W H T 0 x y 0=rb W H T 1+y*W+x from by unfold nodeN;rw [if_pos ⟨h,hg⟩];simp only [nodeAt,rb,gw,gd] <;> omega)
 have HE:=hd_ (show nodeE W H T 0 x y 0=0 from by unfold nodeE;rw [if_pos ⟨h,hg⟩])
 have hh:=h
 unfold okA at hh
 have hn:=nodeAt_in hg
 have hr:=rb_bd h (k:=1) (by omega)
 have hz:=gat_bd h (k:=1) (by omega)
 obtain ⟨⟨g1,g2⟩,⟨g3,g4⟩,g5,g6⟩:=hg
 simp only [gw,gh,gd] at g2 g4 g6
 have r1:=row_lt g1 g2 g3 g4
 have r2:=row_lt g5 g6 r1.1 r1.2
 have pb:=g_bd2 h (k:=0) (by omega)
 simp only [gw,gh,gd] at pb
 have r3:0<=y*W:=Int.mul_nonneg g3 (by omega)
 simp only [nodeAt,gw,gd] at hn
 have hrb:rb W H T 1=gat W H T 0:=rfl
 have e0:IntKind.i64.wrap (y*W)=y*W:=IntWalk.i64_in _ (by omega)
 have e1:IntKind.i64.wrap (rb W H T 1+y*W)=rb W H T 1+y*W:=IntWalk.i64_in _ (by omega)
 have e2:IntKind.i64.wrap (rb W H T 1+y*W+x)=rb W H T 1+y*W+x:=IntWalk.i64_in _ (by omega)
 clear hrb hn hr hz r1 r2 pb r3
 go_enter Tryz.func108,Tryz.ntmps108
 go_wp2_with (first
  | (go_at_call 83;refine (rcheck_yes W H T _ h).mono ?_;rintro e w1 ⟨rfl,hb1⟩;obtain ⟨hc1,hf1⟩:=bcell hb1)
  | (go_at_call 126;refine (in_any _ _ _).mono ?_;rintro e wi ⟨rfl,rfl⟩))
 have hz1:w.heap.size<w1.heap.size:=by have:=hb1.size;simp at this;omega
 have k0:w1.cell? ⟨w.heap.size,0,none⟩=some (.int .i64 W):=by rw [hc1 _ _ (by simp)];go_simp
 have k1:w1.cell? ⟨w.heap.size,1,none⟩=some (.int .i64 H):=by rw [hc1 _ _ (by simp)];go_simp
 have k2:w1.cell? ⟨w.heap.size,2,none⟩=some (.int .i64 T):=by rw [hc1 _ _ (by simp)];go_simp
 clear hc1 hf1
 go_region_held3 (fun w'=>w'.cell? ⟨w.heap.size,0,none⟩=some (.int .i64 W)∧w'.cell? ⟨w.heap.size,1,none⟩=some (.int .i64 H)∧w'.cell? ⟨w.heap.size,2,none⟩=some (.int .i64 T)) (go_keep) ((go_at_call 128;refine (begin_i W H T 1 _ rfl _ h (by omega)).mono ?_;rintro e w3 ⟨rfl,hb3⟩;have q0:=(hb3.cell (p:=⟨w.heap.size,0,none⟩) hz1).trans k0;have q1:=(hb3.cell (p:=⟨w.heap.size,1,none⟩) hz1).trans k1;have q2:=(hb3.cell (p:=⟨w.heap.size,2,none⟩) hz1).trans k2))
 go_wp2
 go_ret2
 exact ⟨by rw [HN.out,HE.out];rfl,((br_.alloc (Nat.le_refl _) _).trans (hb1.mono (by simp))).drew.trans (hb3.mono (B':=w.heap.size) (by simp;omega))⟩
theorem rout_any (W H T x y:Int) (w:World) :
  Calls Tryz.prog 108 #[.agg #[.int .i64 W,.int .i64 H,.int .i64 T],.int .i64 x,.int .i64 y] w fun e w'=>e=.returned (pairV (nodeN W H T 0 x y 0) (nodeE W H T 0 x y 0))∧Below w.heap.size w w':=by
 by_cases h:okA W H T
 ·cases t0:inB x (W)
  ·exact rout_o0 W H T x y w h t0
  ·cases t1:inB y (H)
   ·exact rout_o1 W H T x y w h t0 t1
   ·exact rout_in W H T x y w h t0 t1
 ·exact rout_bad W H T x y w h
theorem rin_bad (W H T x y k:Int) (w:World) (h:¬ okA W H T) :
  Calls Tryz.prog 109 #[.agg #[.int .i64 W,.int .i64 H,.int .i64 T],.int .i64 x,.int .i64 y,.int .i64 k] w fun e w'=>e=.returned (pairV (nodeN W H T 1 x y k) (nodeE W H T 1 x y k))∧Below w.heap.size w w':=by
 have HN:=hd_ (show nodeN W H T 1 x y k=0 from by unfold nodeN;rw [if_neg (fun hh=>h hh.1)])
 have HE:=hd_ (show nodeE W H T 1 x y k=1 from by unfold nodeE;rw [if_neg (fun hh=>h hh.1)])
 go_enter Tryz.func109,Tryz.ntmps109
 go_wp2_with (go_at_call 83;refine (rcheck_no W H T _ h).mono ?_;rintro e w1 ⟨rfl,hb1⟩)
 go_ret2
 exact ⟨by rw [HN.out,HE.out];rfl,(br_.alloc (Nat.le_refl _) _).trans (hb1.mono (by simp))⟩
theorem rin_o0 (W H T x y k:Int) (w:World) (h:okA W H T) (t0:inB x (W)=false) :
  Calls Tryz.prog 109 #[.agg #[.int .i64 W,.int .i64 H,.int .i64 T],.int .i64 x,.int .i64 y,.int .i64 k] w fun e w'=>e=.returned (pairV (nodeN W H T 1 x y k) (nodeE W H T 1 x y k))∧Below w.heap.size w w':=by
 have hno:¬ inG W H T 1 x y k:=by unfold inG;simp only [inB,decide_eq_true_eq,decide_eq_false_iff_not,gw,gh,gd] at *;omega
 have HN:=hd_ (show nodeN W H T 1 x y k=0 from by unfold nodeN;rw [if_neg (fun hh=>hno hh.2)])
 have HE:=hd_ (show nodeE W H T 1 x y k=1 from by unfold nodeE;rw [if_neg (fun hh=>hno hh.2)])
 clear hno
 have hh:=h
 unfold okA at hh
 go_enter Tryz.func109,Tryz.ntmps109
 go_wp2_with (first
  | (go_at_call 83;refine (rcheck_yes W H T _ h).mono ?_;rintro e w1 ⟨rfl,hb1⟩;obtain ⟨hc1,hf1⟩:=bcell hb1)
  | (go_at_call 126;refine (in_any _ _ _).mono ?_;rintro e wi ⟨rfl,rfl⟩))
 go_ret2
 exact ⟨by rw [HN.out,HE.out];rfl,(br_.alloc (Nat.le_refl _) _).trans (hb1.mono (by simp))⟩
theorem rin_o1 (W H T x y k:Int) (w:World) (h:okA W H T) (t0:inB x (W)=true) (t1:inB y (H)=false) :
  Calls Tryz.prog 109 #[.agg #[.int .i64 W,.int .i64 H,.int .i64 T],.int .i64 x,.int .i64 y,.int .i64 k] w fun e w'=>e=.returned (pairV (nodeN W H T 1 x y k) (nodeE W H T 1 x y k))∧Below w.heap.size w w':=by
 have hno:¬ inG W H T 1 x y k:=by unfold inG;simp only [inB,decide_eq_true_eq,decide_eq_false_iff_not,gw,gh,gd] at *;omega
 have HN:=hd_ (show nodeN W H T 1 x y k=0 from by unfold nodeN;rw [if_neg (fun hh=>hno hh.2)])
 have HE:=hd_ (show nodeE W H T 1 x y k=1 from by unfold nodeE;rw [if_neg (fun hh=>hno hh.2)])
 clear hno
 have hh:=h
 unfold okA at hh
 go_enter Tryz.func109,Tryz.ntmps109
 go_wp2_with (first
  | (go_at_call 83;refine (rcheck_yes W H T _ h).mono ?_;rintro e w1 ⟨rfl,hb1⟩;obtain ⟨hc1,hf1⟩:=bcell hb1)
  | (go_at_call 126;refine (in_any _ _ _).mono ?_;rintro e wi ⟨rfl,rfl⟩))
 go_ret2
 exact ⟨by rw [HN.out,HE.out];rfl,(br_.alloc (Nat.le_refl _) _).trans (hb1.mono (by simp))⟩
theorem rin_o2 (W H T x y k:Int) (w:World) (h:okA W H T) (t0:inB x (W)=true) (t1:inB y (H)=true) (t2:inB k (4)=false) :
  Calls Tryz.prog 109 #[.agg #[.int .i64 W,.int .i64 H,.int .i64 T],.int .i64 x,.int .i64 y,.int .i64 k] w fun e w'=>e=.returned (pairV (nodeN W H T 1 x y k) (nodeE W H T 1 x y k))∧Below w.heap.size w w':=by
 have hno:¬ inG W H T 1 x y k:=by unfold inG;simp only [inB,decide_eq_true_eq,decide_eq_false_iff_not,gw,gh,gd] at *;omega
 have HN:=hd_ (show nodeN W H T 1 x y k=0 from by unfold nodeN;rw [if_neg (fun hh=>hno hh.2)])
 have HE:=hd_ (show nodeE W H T 1 x y k=1 from by unfold nodeE;rw [if_neg (fun hh=>hno hh.2)])
 clear hno
 have hh:=h
 unfold okA at hh
 go_enter Tryz.func109,Tryz.ntmps109
 go_wp2_with (first
  | (go_at_call 83;refine (rcheck_yes W H T _ h).mono ?_;rintro e w1 ⟨rfl,hb1⟩;obtain ⟨hc1,hf1⟩:=bcell hb1)
  | (go_at_call 126;refine (in_any _ _ _).mono ?_;rintro e wi ⟨rfl,rfl⟩))
 go_ret2
 exact ⟨by rw [HN.out,HE.out];rfl,(br_.alloc (Nat.le_refl _) _).trans (hb1.mono (by simp))⟩
theorem rin_in (W H T x y k:Int) (w:World) (h:okA W H T) (t0:inB x (W)=true) (t1:inB y (H)=true) (t2:inB k (4)=true) :
  Calls Tryz.prog 109 #[.agg #[.int .i64 W,.int .i64 H,.int .i64 T],.int .i64 x,.int .i64 y,.int .i64 k] w fun e w'=>e=.returned (pairV (nodeN W H T 1 x y k) (nodeE W H T 1 x y k))∧Below w.heap.size w w':=by
 have hg:inG W H T 1 x y k:=by unfold inG;simp only [inB,decide_eq_true_eq,decide_eq_false_iff_not,gw,gh,gd] at *;omega
 have HN:=hd_ (show nodeN W H T 1 x y k=rb W H T 2+4*(y*W+x)+k from by unfold nodeN;rw [if_pos ⟨h,hg⟩];simp only [nodeAt,rb,gw,gd] <;> omega)
 have HE:=hd_ (show nodeE W H T 1 x y k=0 from by unfold nodeE;rw [if_pos ⟨h,hg⟩])
 have hh:=h
 unfold okA at hh
 have hn:=nodeAt_in hg
 have hr:=rb_bd h (k:=2) (by omega)
 have hz:=gat_bd h (k:=2) (by omega)
 obtain ⟨⟨g1,g2⟩,⟨g3,g4⟩,g5,g6⟩:=hg
 simp only [gw,gh,gd] at g2 g4 g6
 have r1:=row_lt g1 g2 g3 g4
 have r2:=row_lt g5 g6 r1.1 r1.2
 have pb:=g_bd2 h (k:=1) (by omega)
 simp only [gw,gh,gd] at pb
 have r3:0<=y*W:=Int.mul_nonneg g3 (by omega)
 simp only [nodeAt,gw,gd] at hn
 have hrb:rb W H T 2=gat W H T 1:=rfl
 have e0:IntKind.i64.wrap (y*W)=y*W:=IntWalk.i64_in _ (by omega)
 have e1:IntKind.i64.wrap (y*W+x)=y*W+x:=IntWalk.i64_in _ (by omega)
 have e2:IntKind.i64.wrap (4*(y*W+x))=4*(y*W+x):=IntWalk.i64_in _ (by omega)
 have e3:IntKind.i64.wrap (rb W H T 2+4*(y*W+x))=rb W H T 2+4*(y*W+x):=IntWalk.i64_in _ (by omega)
 have e4:IntKind.i64.wrap (rb W H T 2+4*(y*W+x)+k)=rb W H T 2+4*(y*W+x)+k:=IntWalk.i64_in _ (by omega)
 clear hrb hn hr hz r1 r2 pb r3
 go_enter Tryz.func109,Tryz.ntmps109
 go_wp2_with (first
  | (go_at_call 83;refine (rcheck_yes W H T _ h).mono ?_;rintro e w1 ⟨rfl,hb1⟩;obtain ⟨hc1,hf1⟩:=bcell hb1)
  | (go_at_call 126;refine (in_any _ _ _).mono ?_;rintro e wi ⟨rfl,rfl⟩))
 have hz1:w.heap.size<w1.heap.size:=by have:=hb1.size;simp at this;omega
 have k0:w1.cell? ⟨w.heap.size,0,none⟩=some (.int .i64 W):=by rw [hc1 _ _ (by simp)];go_simp
 have k1:w1.cell? ⟨w.heap.size,1,none⟩=some (.int .i64 H):=by rw [hc1 _ _ (by simp)];go_simp
 have k2:w1.cell? ⟨w.heap.size,2,none⟩=some (.int .i64 T):=by rw [hc1 _ _ (by simp)];go_simp
 clear hc1 hf1
 go_region_held3 (fun w'=>w'.cell? ⟨w.heap.size,0,none⟩=some (.int .i64 W)∧w'.cell? ⟨w.heap.size,1,none⟩=some (.int .i64 H)∧w'.cell? ⟨w.heap.size,2,none⟩=some (.int .i64 T)) (go_keep) ((go_at_call 128;refine (begin_i W H T 2 _ rfl _ h (by omega)).mono ?_;rintro e w3 ⟨rfl,hb3⟩;have q0:=(hb3.cell (p:=⟨w.heap.size,0,none⟩) hz1).trans k0;have q1:=(hb3.cell (p:=⟨w.heap.size,1,none⟩) hz1).trans k1;have q2:=(hb3.cell (p:=⟨w.heap.size,2,none⟩) hz1).trans k2))
 go_wp2
 go_ret2
 exact ⟨by rw [HN.out,HE.out];rfl,((br_.alloc (Nat.le_refl _) _).trans (hb1.mono (by simp))).drew.trans (hb3.mono (B':=w.heap.size) (by simp;omega))⟩
theorem rin_any (W H T x y k:Int) (w:World) :
  Calls Tryz.prog 109 #[.agg #[.int .i64 W,.int .i64 H,.int .i64 T],.int .i64 x,.int .i64 y,.int .i64 k] w fun e w'=>e=.returned (pairV (nodeN W H T 1 x y k) (nodeE W H T 1 x y k))∧Below w.heap.size w w':=by
 by_cases h:okA W H T
 ·cases t0:inB x (W)
  ·exact rin_o0 W H T x y k w h t0
  ·cases t1:inB y (H)
   ·exact rin_o1 W H T x y k w h t0 t1
   ·cases t2:inB k (4)
    ·exact rin_o2 W H T x y k w h t0 t1 t2
    ·exact rin_in W H T x y k w h t0 t1 t2
 ·exact rin_bad W H T x y k w h
theorem rhor_bad (W H T x y t:Int) (w:World) (h:¬ okA W H T) :
  Calls Tryz.prog 149 #[.agg #[.int .i64 W,.int .i64 H,.int .i64 T],.int .i64 x,.int .i64 y,.int .i64 t] w fun e w'=>e=.returned (pairV (nodeN W H T 3 x y t) (nodeE W H T 3 x y t))∧Below w.heap.size w w':=by
 have HN:=hd_ (show nodeN W H T 3 x y t=0 from by unfold nodeN;rw [if_neg (fun hh=>h hh.1)])
 have HE:=hd_ (show nodeE W H T 3 x y t=1 from by unfold nodeE;rw [if_neg (fun hh=>h hh.1)])
 go_enter Tryz.func149,Tryz.ntmps149
 go_wp2_with (go_at_call 83;refine (rcheck_no W H T _ h).mono ?_;rintro e w1 ⟨rfl,hb1⟩)
 go_ret2
 exact ⟨by rw [HN.out,HE.out];rfl,(br_.alloc (Nat.le_refl _) _).trans (hb1.mono (by simp))⟩
theorem rhor_o0 (W H T x y t:Int) (w:World) (h:okA W H T) (t0:inB x (W)=false) :
  Calls Tryz.prog 149 #[.agg #[.int .i64 W,.int .i64 H,.int .i64 T],.int .i64 x,.int .i64 y,.int .i64 t] w fun e w'=>e=.returned (pairV (nodeN W H T 3 x y t) (nodeE W H T 3 x y t))∧Below w.heap.size w w':=by
 have hno:¬ inG W H T 3 x y t:=by unfold inG;simp only [inB,decide_eq_true_eq,decide_eq_false_iff_not,gw,gh,gd] at *;omega
 have HN:=hd_ (show nodeN W H T 3 x y t=0 from by unfold nodeN;rw [if_neg (fun hh=>hno hh.2)])
 have HE:=hd_ (show nodeE W H T 3 x y t=1 from by unfold nodeE;rw [if_neg (fun hh=>hno hh.2)])
 clear hno
 have hh:=h
 unfold okA at hh
 go_enter Tryz.func149,Tryz.ntmps149
 go_wp2_with (first
  | (go_at_call 83;refine (rcheck_yes W H T _ h).mono ?_;rintro e w1 ⟨rfl,hb1⟩;obtain ⟨hc1,hf1⟩:=bcell hb1)
  | (go_at_call 126;refine (in_any _ _ _).mono ?_;rintro e wi ⟨rfl,rfl⟩))
 go_ret2
 exact ⟨by rw [HN.out,HE.out];rfl,(br_.alloc (Nat.le_refl _) _).trans (hb1.mono (by simp))⟩
theorem rhor_o1 (W H T x y t:Int) (w:World) (h:okA W H T) (t0:inB x (W)=true) (t1:inB y (H+1)=false) :
  Calls Tryz.prog 149 #[.agg #[.int .i64 W,.int .i64 H,.int .i64 T],.int .i64 x,.int .i64 y,.int .i64 t] w fun e w'=>e=.returned (pairV (nodeN W H T 3 x y t) (nodeE W H T 3 x y t))∧Below w.heap.size w w':=by
 have hno:¬ inG W H T 3 x y t:=by unfold inG;simp only [inB,decide_eq_true_eq,decide_eq_false_iff_not,gw,gh,gd] at *;omega
 have HN:=hd_ (show nodeN W H T 3 x y t=0 from by unfold nodeN;rw [if_neg (fun hh=>hno hh.2)])
 have HE:=hd_ (show nodeE W H T 3 x y t=1 from by unfold nodeE;rw [if_neg (fun hh=>hno hh.2)])
 clear hno
 have hh:=h
 unfold okA at hh
 go_enter Tryz.func149,Tryz.ntmps149
 go_wp2_with (first
  | (go_at_call 83;refine (rcheck_yes W H T _ h).mono ?_;rintro e w1 ⟨rfl,hb1⟩;obtain ⟨hc1,hf1⟩:=bcell hb1)
  | (go_at_call 126;refine (in_any _ _ _).mono ?_;rintro e wi ⟨rfl,rfl⟩))
 go_ret2
 exact ⟨by rw [HN.out,HE.out];rfl,(br_.alloc (Nat.le_refl _) _).trans (hb1.mono (by simp))⟩
theorem rhor_o2 (W H T x y t:Int) (w:World) (h:okA W H T) (t0:inB x (W)=true) (t1:inB y (H+1)=true) (t2:inB t (T)=false) :
  Calls Tryz.prog 149 #[.agg #[.int .i64 W,.int .i64 H,.int .i64 T],.int .i64 x,.int .i64 y,.int .i64 t] w fun e w'=>e=.returned (pairV (nodeN W H T 3 x y t) (nodeE W H T 3 x y t))∧Below w.heap.size w w':=by
 have hno:¬ inG W H T 3 x y t:=by unfold inG;simp only [inB,decide_eq_true_eq,decide_eq_false_iff_not,gw,gh,gd] at *;omega
 have HN:=hd_ (show nodeN W H T 3 x y t=0 from by unfold nodeN;rw [if_neg (fun hh=>hno hh.2)])
 have HE:=hd_ (show nodeE W H T 3 x y t=1 from by unfold nodeE;rw [if_neg (fun hh=>hno hh.2)])
 clear hno
 have hh:=h
 unfold okA at hh
 go_enter Tryz.func149,Tryz.ntmps149
 go_wp2_with (first
  | (go_at_call 83;refine (rcheck_yes W H T _ h).mono ?_;rintro e w1 ⟨rfl,hb1⟩;obtain ⟨hc1,hf1⟩:=bcell hb1)
  | (go_at_call 126;refine (in_any _ _ _).mono ?_;rintro e wi ⟨rfl,rfl⟩))
 go_ret2
 exact ⟨by rw [HN.out,HE.out];rfl,(br_.alloc (Nat.le_refl _) _).trans (hb1.mono (by simp))⟩
theorem rhor_in (W H T x y t:Int) (w:World) (h:okA W H T) (t0:inB x (W)=true) (t1:inB y (H+1)=true) (t2:inB t (T)=true) :
  Calls Tryz.prog 149 #[.agg #[.int .i64 W,.int .i64 H,.int .i64 T],.int .i64 x,.int .i64 y,.int .i64 t] w fun e w'=>e=.returned (pairV (nodeN W H T 3 x y t) (nodeE W H T 3 x y t))∧Below w.heap.size w w':=by
 have hg:inG W H T 3 x y t:=by unfold inG;simp only [inB,decide_eq_true_eq,decide_eq_false_iff_not,gw,gh,gd] at *;omega
 have HN:=hd_ (show nodeN W H T 3 x y t=rb W H T 4+(y*W+x)*T+t from by unfold nodeN;rw [if_pos ⟨h,hg⟩];simp only [nodeAt,rb,gw,gd] <;> omega)
 have HE:=hd_ (show nodeE W H T 3 x y t=0 from by unfold nodeE;rw [if_pos ⟨h,hg⟩])
 have hh:=h
 unfold okA at hh
 have hn:=nodeAt_in hg
 have hr:=rb_bd h (k:=4) (by omega)
 have hz:=gat_bd h (k:=4) (by omega)
 obtain ⟨⟨g1,g2⟩,⟨g3,g4⟩,g5,g6⟩:=hg
 simp only [gw,gh,gd] at g2 g4 g6
 have r1:=row_lt g1 g2 g3 g4
 have r2:=row_lt g5 g6 r1.1 r1.2
 have pb:=g_bd2 h (k:=3) (by omega)
 simp only [gw,gh,gd] at pb
 rw [Int.mul_comm T] at r2
 have r3:0<=y*W:=Int.mul_nonneg g3 (by omega)
 have r4:0<=(y*W+x)*T:=Int.mul_nonneg r1.1 (by omega)
 simp only [nodeAt,gw,gd] at hn
 have hrb:rb W H T 4=gat W H T 3:=rfl
 have e0:IntKind.i64.wrap (H+1)=H+1:=IntWalk.i64_in _ (by omega)
 have e1:IntKind.i64.wrap (y*W)=y*W:=IntWalk.i64_in _ (by omega)
 have e2:IntKind.i64.wrap (y*W+x)=y*W+x:=IntWalk.i64_in _ (by omega)
 have e3:IntKind.i64.wrap ((y*W+x)*T)=(y*W+x)*T:=IntWalk.i64_in _ (by omega)
 have e4:IntKind.i64.wrap (rb W H T 4+(y*W+x)*T)=rb W H T 4+(y*W+x)*T:=IntWalk.i64_in _ (by omega)
 have e5:IntKind.i64.wrap (rb W H T 4+(y*W+x)*T+t)=rb W H T 4+(y*W+x)*T+t:=IntWalk.i64_in _ (by omega)
 clear hrb hn hr hz r1 r2 pb r3 r4
 go_enter Tryz.func149,Tryz.ntmps149
 go_wp2_with (first
  | (go_at_call 83;refine (rcheck_yes W H T _ h).mono ?_;rintro e w1 ⟨rfl,hb1⟩;obtain ⟨hc1,hf1⟩:=bcell hb1)
  | (go_at_call 126;refine (in_any _ _ _).mono ?_;rintro e wi ⟨rfl,rfl⟩))
 have hz1:w.heap.size<w1.heap.size:=by have:=hb1.size;simp at this;omega
 have k0:w1.cell? ⟨w.heap.size,0,none⟩=some (.int .i64 W):=by rw [hc1 _ _ (by simp)];go_simp
 have k1:w1.cell? ⟨w.heap.size,1,none⟩=some (.int .i64 H):=by rw [hc1 _ _ (by simp)];go_simp
 have k2:w1.cell? ⟨w.heap.size,2,none⟩=some (.int .i64 T):=by rw [hc1 _ _ (by simp)];go_simp
 clear hc1 hf1
 go_region_held3 (fun w'=>w'.cell? ⟨w.heap.size,0,none⟩=some (.int .i64 W)∧w'.cell? ⟨w.heap.size,1,none⟩=some (.int .i64 H)∧w'.cell? ⟨w.heap.size,2,none⟩=some (.int .i64 T)) (go_keep) ((go_at_call 128;refine (begin_i W H T 4 _ rfl _ h (by omega)).mono ?_;rintro e w3 ⟨rfl,hb3⟩;have q0:=(hb3.cell (p:=⟨w.heap.size,0,none⟩) hz1).trans k0;have q1:=(hb3.cell (p:=⟨w.heap.size,1,none⟩) hz1).trans k1;have q2:=(hb3.cell (p:=⟨w.heap.size,2,none⟩) hz1).trans k2))
 go_wp2
 go_ret2
 exact ⟨by rw [HN.out,HE.out];rfl,((br_.alloc (Nat.le_refl _) _).trans (hb1.mono (by simp))).drew.trans (hb3.mono (B':=w.heap.size) (by simp;omega))⟩
theorem rhor_any (W H T x y t:Int) (w:World) :
  Calls Tryz.prog 149 #[.agg #[.int .i64 W,.int .i64 H,.int .i64 T],.int .i64 x,.int .i64 y,.int .i64 t] w fun e w'=>e=.returned (pairV (nodeN W H T 3 x y t) (nodeE W H T 3 x y t))∧Below w.heap.size w w':=by
 by_cases h:okA W H T
 ·cases t0:inB x (W)
  ·exact rhor_o0 W H T x y t w h t0
  ·cases t1:inB y (H+1)
   ·exact rhor_o1 W H T x y t w h t0 t1
   ·cases t2:inB t (T)
    ·exact rhor_o2 W H T x y t w h t0 t1 t2
    ·exact rhor_in W H T x y t w h t0 t1 t2
 ·exact rhor_bad W H T x y t w h
theorem rver_bad (W H T x y t:Int) (w:World) (h:¬ okA W H T) :
  Calls Tryz.prog 148 #[.agg #[.int .i64 W,.int .i64 H,.int .i64 T],.int .i64 x,.int .i64 y,.int .i64 t] w fun e w'=>e=.returned (pairV (nodeN W H T 4 x y t) (nodeE W H T 4 x y t))∧Below w.heap.size w w':=by
 have HN:=hd_ (show nodeN W H T 4 x y t=0 from by unfold nodeN;rw [if_neg (fun hh=>h hh.1)])
 have HE:=hd_ (show nodeE W H T 4 x y t=1 from by unfold nodeE;rw [if_neg (fun hh=>h hh.1)])
 go_enter Tryz.func148,Tryz.ntmps148
 go_wp2_with (go_at_call 83;refine (rcheck_no W H T _ h).mono ?_;rintro e w1 ⟨rfl,hb1⟩)
 go_ret2
 exact ⟨by rw [HN.out,HE.out];rfl,(br_.alloc (Nat.le_refl _) _).trans (hb1.mono (by simp))⟩
theorem rver_o0 (W H T x y t:Int) (w:World) (h:okA W H T) (t0:inB x (W+1)=false) :
  Calls Tryz.prog 148 #[.agg #[.int .i64 W,.int .i64 H,.int .i64 T],.int .i64 x,.int .i64 y,.int .i64 t] w fun e w'=>e=.returned (pairV (nodeN W H T 4 x y t) (nodeE W H T 4 x y t))∧Below w.heap.size w w':=by
 have hno:¬ inG W H T 4 x y t:=by unfold inG;simp only [inB,decide_eq_true_eq,decide_eq_false_iff_not,gw,gh,gd] at *;omega
 have HN:=hd_ (show nodeN W H T 4 x y t=0 from by unfold nodeN;rw [if_neg (fun hh=>hno hh.2)])
 have HE:=hd_ (show nodeE W H T 4 x y t=1 from by unfold nodeE;rw [if_neg (fun hh=>hno hh.2)])
 clear hno
 have hh:=h
 unfold okA at hh
 go_enter Tryz.func148,Tryz.ntmps148
 go_wp2_with (first
  | (go_at_call 83;refine (rcheck_yes W H T _ h).mono ?_;rintro e w1 ⟨rfl,hb1⟩;obtain ⟨hc1,hf1⟩:=bcell hb1)
  | (go_at_call 126;refine (in_any _ _ _).mono ?_;rintro e wi ⟨rfl,rfl⟩))
 go_ret2
 exact ⟨by rw [HN.out,HE.out];rfl,(br_.alloc (Nat.le_refl _) _).trans (hb1.mono (by simp))⟩
theorem rver_o1 (W H T x y t:Int) (w:World) (h:okA W H T) (t0:inB x (W+1)=true) (t1:inB y (H)=false) :
  Calls Tryz.prog 148 #[.agg #[.int .i64 W,.int .i64 H,.int .i64 T],.int .i64 x,.int .i64 y,.int .i64 t] w fun e w'=>e=.returned (pairV (nodeN W H T 4 x y t) (nodeE W H T 4 x y t))∧Below w.heap.size w w':=by
 have hno:¬ inG W H T 4 x y t:=by unfold inG;simp only [inB,decide_eq_true_eq,decide_eq_false_iff_not,gw,gh,gd] at *;omega
 have HN:=hd_ (show nodeN W H T 4 x y t=0 from by unfold nodeN;rw [if_neg (fun hh=>hno hh.2)])
 have HE:=hd_ (show nodeE W H T 4 x y t=1 from by unfold nodeE;rw [if_neg (fun hh=>hno hh.2)])
 clear hno
 have hh:=h
 unfold okA at hh
 go_enter Tryz.func148,Tryz.ntmps148
 go_wp2_with (first
  | (go_at_call 83;refine (rcheck_yes W H T _ h).mono ?_;rintro e w1 ⟨rfl,hb1⟩;obtain ⟨hc1,hf1⟩:=bcell hb1)
  | (go_at_call 126;refine (in_any _ _ _).mono ?_;rintro e wi ⟨rfl,rfl⟩))
 go_ret2
 exact ⟨by rw [HN.out,HE.out];rfl,(br_.alloc (Nat.le_refl _) _).trans (hb1.mono (by simp))⟩
theorem rver_o2 (W H T x y t:Int) (w:World) (h:okA W H T) (t0:inB x (W+1)=true) (t1:inB y (H)=true) (t2:inB t (T)=false) :
  Calls Tryz.prog 148 #[.agg #[.int .i64 W,.int .i64 H,.int .i64 T],.int .i64 x,.int .i64 y,.int .i64 t] w fun e w'=>e=.returned (pairV (nodeN W H T 4 x y t) (nodeE W H T 4 x y t))∧Below w.heap.size w w':=by
 have hno:¬ inG W H T 4 x y t:=by unfold inG;simp only [inB,decide_eq_true_eq,decide_eq_false_iff_not,gw,gh,gd] at *;omega
 have HN:=hd_ (show nodeN W H T 4 x y t=0 from by unfold nodeN;rw [if_neg (fun hh=>hno hh.2)])
 have HE:=hd_ (show nodeE W H T 4 x y t=1 from by unfold nodeE;rw [if_neg (fun hh=>hno hh.2)])
 clear hno
 have hh:=h
 unfold okA at hh
 go_enter Tryz.func148,Tryz.ntmps148
 go_wp2_with (first
  | (go_at_call 83;refine (rcheck_yes W H T _ h).mono ?_;rintro e w1 ⟨rfl,hb1⟩;obtain ⟨hc1,hf1⟩:=bcell hb1)
  | (go_at_call 126;refine (in_any _ _ _).mono ?_;rintro e wi ⟨rfl,rfl⟩))
 go_ret2
 exact ⟨by rw [HN.out,HE.out];rfl,(br_.alloc (Nat.le_refl _) _).trans (hb1.mono (by simp))⟩
theorem rver_in (W H T x y t:Int) (w:World) (h:okA W H T) (t0:inB x (W+1)=true) (t1:inB y (H)=true) (t2:inB t (T)=true) :
  Calls Tryz.prog 148 #[.agg #[.int .i64 W,.int .i64 H,.int .i64 T],.int .i64 x,.int .i64 y,.int .i64 t] w fun e w'=>e=.returned (pairV (nodeN W H T 4 x y t) (nodeE W H T 4 x y t))∧Below w.heap.size w w':=by
 have hg:inG W H T 4 x y t:=by unfold inG;simp only [inB,decide_eq_true_eq,decide_eq_false_iff_not,gw,gh,gd] at *;omega
 have HN:=hd_ (show nodeN W H T 4 x y t=rb W H T 5+(y*(W+1)+x)*T+t from by unfold nodeN;rw [if_pos ⟨h,hg⟩];simp only [nodeAt,rb,gw,gd] <;> omega)
 have HE:=hd_ (show nodeE W H T 4 x y t=0 from by unfold nodeE;rw [if_pos ⟨h,hg⟩])
 have hh:=h
 unfold okA at hh
 have hn:=nodeAt_in hg
 have hr:=rb_bd h (k:=5) (by omega)
 have hz:=gat_bd h (k:=5) (by omega)
 obtain ⟨⟨g1,g2⟩,⟨g3,g4⟩,g5,g6⟩:=hg
 simp only [gw,gh,gd] at g2 g4 g6
 have r1:=row_lt g1 g2 g3 g4
 have r2:=row_lt g5 g6 r1.1 r1.2
 have pb:=g_bd2 h (k:=4) (by omega)
 simp only [gw,gh,gd] at pb
 rw [Int.mul_comm T] at r2
 have r3:0<=y*(W+1):=Int.mul_nonneg g3 (by omega)
 have r4:0<=(y*(W+1)+x)*T:=Int.mul_nonneg r1.1 (by omega)
 simp only [nodeAt,gw,gd] at hn
 have hrb:rb W H T 5=gat W H T 4:=rfl
 have e0:IntKind.i64.wrap (W+1)=W+1:=IntWalk.i64_in _ (by omega)
 have e1:IntKind.i64.wrap (y*(W+1))=y*(W+1):=IntWalk.i64_in _ (by omega)
 have e2:IntKind.i64.wrap (y*(W+1)+x)=y*(W+1)+x:=IntWalk.i64_in _ (by omega)
 have e3:IntKind.i64.wrap ((y*(W+1)+x)*T)=(y*(W+1)+x)*T:=IntWalk.i64_in _ (by omega)
 have e4:IntKind.i64.wrap (rb W H T 5+(y*(W+1)+x)*T)=rb W H T 5+(y*(W+1)+x)*T:=IntWalk.i64_in _ (by omega)
 have e5:IntKind.i64.wrap (rb W H T 5+(y*(W+1)+x)*T+t)=rb W H T 5+(y*(W+1)+x)*T+t:=IntWalk.i64_in _ (by omega)
 clear hrb hn hr hz r1 r2 pb r3 r4
 go_enter Tryz.func148,Tryz.ntmps148
 go_wp2_with (first
  | (go_at_call 83;refine (rcheck_yes W H T _ h).mono ?_;rintro e w1 ⟨rfl,hb1⟩;obtain ⟨hc1,hf1⟩:=bcell hb1)
  | (go_at_call 126;refine (in_any _ _ _).mono ?_;rintro e wi ⟨rfl,rfl⟩))
 have hz1:w.heap.size<w1.heap.size:=by have:=hb1.size;simp at this;omega
 have k0:w1.cell? ⟨w.heap.size,0,none⟩=some (.int .i64 W):=by rw [hc1 _ _ (by simp)];go_simp
 have k1:w1.cell? ⟨w.heap.size,1,none⟩=some (.int .i64 H):=by rw [hc1 _ _ (by simp)];go_simp
 have k2:w1.cell? ⟨w.heap.size,2,none⟩=some (.int .i64 T):=by rw [hc1 _ _ (by simp)];go_simp
 clear hc1 hf1
 go_region_held3 (fun w'=>w'.cell? ⟨w.heap.size,0,none⟩=some (.int .i64 W)∧w'.cell? ⟨w.heap.size,1,none⟩=some (.int .i64 H)∧w'.cell? ⟨w.heap.size,2,none⟩=some (.int .i64 T)) (go_keep) ((go_at_call 128;refine (begin_i W H T 5 _ rfl _ h (by omega)).mono ?_;rintro e w3 ⟨rfl,hb3⟩;have q0:=(hb3.cell (p:=⟨w.heap.size,0,none⟩) hz1).trans k0;have q1:=(hb3.cell (p:=⟨w.heap.size,1,none⟩) hz1).trans k1;have q2:=(hb3.cell (p:=⟨w.heap.size,2,none⟩) hz1).trans k2))
 go_wp2
 go_ret2
 exact ⟨by rw [HN.out,HE.out];rfl,((br_.alloc (Nat.le_refl _) _).trans (hb1.mono (by simp))).drew.trans (hb3.mono (B':=w.heap.size) (by simp;omega))⟩
theorem rver_any (W H T x y t:Int) (w:World) :
  Calls Tryz.prog 148 #[.agg #[.int .i64 W,.int .i64 H,.int .i64 T],.int .i64 x,.int .i64 y,.int .i64 t] w fun e w'=>e=.returned (pairV (nodeN W H T 4 x y t) (nodeE W H T 4 x y t))∧Below w.heap.size w w':=by
 by_cases h:okA W H T
 ·cases t0:inB x (W+1)
  ·exact rver_o0 W H T x y t w h t0
  ·cases t1:inB y (H)
   ·exact rver_o1 W H T x y t w h t0 t1
   ·cases t2:inB t (T)
    ·exact rver_o2 W H T x y t w h t0 t1 t2
    ·exact rver_in W H T x y t w h t0 t1 t2
 ·exact rver_bad W H T x y t w h
theorem rpad_bad (W H T x:Int) (w:World) (h:¬ okA W H T) :
  Calls Tryz.prog 107 #[.agg #[.int .i64 W,.int .i64 H,.int .i64 T],.int .i64 x] w fun e w'=>e=.returned (pairV (nodeN W H T 2 x 0 0) (nodeE W H T 2 x 0 0))∧Below w.heap.size w w':=by
 have HN:=hd_ (show nodeN W H T 2 x 0 0=0 from by unfold nodeN;rw [if_neg (fun hh=>h hh.1)])
 have HE:=hd_ (show nodeE W H T 2 x 0 0=1 from by unfold nodeE;rw [if_neg (fun hh=>h hh.1)])
 go_enter Tryz.func107,Tryz.ntmps107
 go_wp2_with (go_at_call 83;refine (rcheck_no W H T _ h).mono ?_;rintro e w1 ⟨rfl,hb1⟩)
 go_ret2
 exact ⟨by rw [HN.out,HE.out];rfl,(br_.alloc (Nat.le_refl _) _).trans (hb1.mono (by simp))⟩
theorem rpad_o0 (W H T x:Int) (w:World) (h:okA W H T) (t0:inB x (2*W+2*H)=false) :
  Calls Tryz.prog 107 #[.agg #[.int .i64 W,.int .i64 H,.int .i64 T],.int .i64 x] w fun e w'=>e=.returned (pairV (nodeN W H T 2 x 0 0) (nodeE W H T 2 x 0 0))∧Below w.heap.size w w':=by
 have hno:¬ inG W H T 2 x 0 0:=by unfold inG;simp only [inB,decide_eq_true_eq,decide_eq_false_iff_not,gw,gh,gd] at *;omega
 have HN:=hd_ (show nodeN W H T 2 x 0 0=0 from by unfold nodeN;rw [if_neg (fun hh=>hno hh.2)])
 have HE:=hd_ (show nodeE W H T 2 x 0 0=1 from by unfold nodeE;rw [if_neg (fun hh=>hno hh.2)])
 clear hno
 go_enter Tryz.func107,Tryz.ntmps107
 go_wp2_with (first
  | (go_at_call 83;refine (rcheck_yes W H T _ h).mono ?_;rintro e w1 ⟨rfl,hb1⟩;obtain ⟨hc1,hf1⟩:=bcell hb1)
  | (go_at_call 127;refine (rpads_yes W H T _ h).mono ?_;rintro e w2 ⟨rfl,hb2⟩)
  | (go_at_call 126;refine (in_any _ _ _).mono ?_;rintro e wi ⟨rfl,rfl⟩))
 go_ret2
 exact ⟨by rw [HN.out,HE.out];rfl,((br_.alloc (Nat.le_refl _) _).trans (hb1.mono (by simp))).trans (hb2.mono (by have:=hb1.size;simp at this;omega))⟩
theorem rpad_in (W H T x:Int) (w:World) (h:okA W H T) (t0:inB x (2*W+2*H)=true) :
  Calls Tryz.prog 107 #[.agg #[.int .i64 W,.int .i64 H,.int .i64 T],.int .i64 x] w fun e w'=>e=.returned (pairV (nodeN W H T 2 x 0 0) (nodeE W H T 2 x 0 0))∧Below w.heap.size w w':=by
 have hg:inG W H T 2 x 0 0:=by unfold inG;simp only [inB,decide_eq_true_eq,decide_eq_false_iff_not,gw,gh,gd] at *;omega
 have HN:=hd_ (show nodeN W H T 2 x 0 0=rb W H T 3+x from by unfold nodeN;rw [if_pos ⟨h,hg⟩];simp only [nodeAt,rb,gw,gd] <;> omega)
 have HE:=hd_ (show nodeE W H T 2 x 0 0=0 from by unfold nodeE;rw [if_pos ⟨h,hg⟩])
 have hr:=rb_bd h (k:=3) (by omega)
 obtain ⟨⟨g1,g2⟩,-,-⟩:=hg
 have pb:=g_bd h (k:=2) (by omega)
 have e0:IntKind.i64.wrap (rb W H T 3+x)=rb W H T 3+x:=IntWalk.i64_in _ (by omega)
 clear hr g1 g2 pb
 go_enter Tryz.func107,Tryz.ntmps107
 go_wp2_with (first
  | (go_at_call 83;refine (rcheck_yes W H T _ h).mono ?_;rintro e w1 ⟨rfl,hb1⟩;obtain ⟨hc1,hf1⟩:=bcell hb1)
  | (go_at_call 127;refine (rpads_yes W H T _ h).mono ?_;rintro e w2 ⟨rfl,hb2⟩;obtain ⟨hc2,hf2⟩:=bcell hb2;have hz1:w.heap.size<w1.heap.size:=by have:=hb1.size;simp at this;omega)
  | (go_at_call 126;refine (in_any _ _ _).mono ?_;rintro e wi ⟨rfl,rfl⟩)
  | (go_at_call 128;refine (begin_i W H T 3 _ rfl _ h (by omega)).mono ?_;rintro e w3 ⟨rfl,hb3⟩))
 go_ret2
 have h12:Below w.heap.size w w2:=((br_.alloc (Nat.le_refl _) _).trans (hb1.mono (by simp))).trans (hb2.mono (by have:=hb1.size;simp at this;omega))
 exact ⟨by rw [HN.out,HE.out];rfl,h12.trans (hb3.mono h12.size)⟩
theorem rpad_any (W H T x:Int) (w:World) :
  Calls Tryz.prog 107 #[.agg #[.int .i64 W,.int .i64 H,.int .i64 T],.int .i64 x] w fun e w'=>e=.returned (pairV (nodeN W H T 2 x 0 0) (nodeE W H T 2 x 0 0))∧Below w.heap.size w w':=by
 by_cases h:okA W H T
 ·cases t0:inB x (2*W+2*H)
  ·exact rpad_o0 W H T x w h t0
  ·exact rpad_in W H T x w h t0
 ·exact rpad_bad W H T x w h
end Go.Proofs.YtmkiphadkmodnaaGreat
namespace Go.Proofs.YtmkiphadkmodnaaGreat
open Go.RowKit
theorem wh_no {W H T n:Int} (h:¬ isN W H T n):whK W H T n=0∧whX W H T n=0∧whY W H T n=0∧whT W H T n=0∧whE W H T n=1:=by
 simp only [whK,whX,whY,whT,whE,if_neg h,and_self]
theorem rwhat_bad (W H T n:Int) (w:World) (h:¬ okA W H T) :
  Calls Tryz.prog 111 #[.agg #[.int .i64 W,.int .i64 H,.int .i64 T],.int .i64 n] w fun e w'=>e=.returned (whatV 0 0 0 0 1)∧Below w.heap.size w w':=by
 go_enter Tryz.func111,Tryz.ntmps111
 go_wp2_with (go_at_call 83;refine (rcheck_no W H T _ h).mono ?_;rintro e w1 ⟨rfl,hb1⟩)
 refine bodyPost_ret (results_tmp5 rfl _ _ _) rfl ?_
 exact ⟨rfl,(br_.alloc (Nat.le_refl _) _).trans (hb1.mono (by simp))⟩
theorem rwhat_out (W H T n:Int) (w:World) (h:okA W H T) (t:inB n (nodesO W H T)=false) :
  Calls Tryz.prog 111 #[.agg #[.int .i64 W,.int .i64 H,.int .i64 T],.int .i64 n] w fun e w'=>e=.returned (whatV 0 0 0 0 1)∧Below w.heap.size w w':=by
 go_enter Tryz.func111,Tryz.ntmps111
 go_wp2_with (first
  | (go_at_call 83;refine (rcheck_yes W H T _ h).mono ?_;rintro e w1 ⟨rfl,hb1⟩;obtain ⟨hc1,hf1⟩:=bcell hb1)
  | (go_at_call 110;refine (rnodes_any W H T _).mono ?_;rintro e w2 ⟨rfl,hb2⟩)
  | (go_at_call 126;refine (in_any _ _ _).mono ?_;rintro e wi ⟨rfl,rfl⟩))
 refine bodyPost_ret (results_tmp5 rfl _ _ _) rfl ?_
 exact ⟨rfl,((br_.alloc (Nat.le_refl _) _).trans (hb1.mono (by simp))).trans (hb2.mono (by have:=hb1.size;simp at this;omega))⟩
theorem wh_0 {W H T n r:Int} (h:okA W H T) (hr:r=n-gat W H T 0) (h1:gat W H T 0<=n) (h2:n<gat W H T 1):whK W H T n=1∧whX W H T n=r%W∧whY W H T n=r/W∧whT W H T n=0∧whE W H T n=0:=by
 have hm:=gat_mono h
 have e0:gat W H T 0=0:=rfl
 have hN:isN W H T n:=⟨h,by omega,by unfold nodesI;omega⟩
 have hg:gk W H T n=0:=gk_eq h (by omega) h1 (by simpa using h2)
 subst hr
 simp only [whK,whX,whY,whT,whE,if_pos hN,wx,wy,wt,wq,hg,gd,gw]
 simp [Int.emod_one]
theorem wh_1 {W H T n r:Int} (h:okA W H T) (hr:r=n-gat W H T 1) (h1:gat W H T 1<=n) (h2:n<gat W H T 2):whK W H T n=2∧whX W H T n=r/4%W∧whY W H T n=r/4/W∧whT W H T n=r%4∧whE W H T n=0:=by
 have hm:=gat_mono h
 have e0:gat W H T 0=0:=rfl
 have hN:isN W H T n:=⟨h,by omega,by unfold nodesI;omega⟩
 have hg:gk W H T n=1:=gk_eq h (by omega) h1 (by simpa using h2)
 subst hr
 simp only [whK,whX,whY,whT,whE,if_pos hN,wx,wy,wt,wq,hg,gd,gw]
 simp
theorem wh_2 {W H T n r:Int} (h:okA W H T) (hr:r=n-gat W H T 2) (h1:gat W H T 2<=n) (h2:n<gat W H T 3):whK W H T n=3∧whX W H T n=r∧whY W H T n=0∧whT W H T n=0∧whE W H T n=0:=by
 have hm:=gat_mono h
 have e0:gat W H T 0=0:=rfl
 have hN:isN W H T n:=⟨h,by omega,by unfold nodesI;omega⟩
 have hg:gk W H T n=2:=gk_eq h (by omega) h1 (by simpa using h2)
 subst hr
 simp only [whK,whX,whY,whT,whE,if_pos hN,wx,wy,wt,wq,hg,gd,gw]
 have hh:n-gat W H T 2<2*W+2*H:=by
  have:gat W H T 3=gat W H T 2+(2*W+2*H)*1*1:=rfl
  omega
 refine ⟨by simp,?_,?_,Int.emod_one _,trivial⟩
 ·rw [Int.ediv_one];exact Int.emod_eq_of_lt (by omega) hh
 ·rw [Int.ediv_one];exact Int.ediv_eq_zero_of_lt (by omega) hh
theorem wh_3 {W H T n r:Int} (h:okA W H T) (hr:r=n-gat W H T 3) (h1:gat W H T 3<=n) (h2:n<gat W H T 4):whK W H T n=4∧whX W H T n=r/T%W∧whY W H T n=r/T/W∧whT W H T n=r%T∧whE W H T n=0:=by
 have hm:=gat_mono h
 have e0:gat W H T 0=0:=rfl
 have hN:isN W H T n:=⟨h,by omega,by unfold nodesI;omega⟩
 have hg:gk W H T n=3:=gk_eq h (by omega) h1 (by simpa using h2)
 subst hr
 simp only [whK,whX,whY,whT,whE,if_pos hN,wx,wy,wt,wq,hg,gd,gw]
 simp
theorem wh_4 {W H T n r:Int} (h:okA W H T) (hr:r=n-gat W H T 4) (h1:gat W H T 4<=n) (h2:n<gat W H T 5):whK W H T n=5∧whX W H T n=r/T%(W+1)∧whY W H T n=r/T/(W+1)∧whT W H T n=r%T∧whE W H T n=0:=by
 have hm:=gat_mono h
 have e0:gat W H T 0=0:=rfl
 have hN:isN W H T n:=⟨h,by omega,by unfold nodesI;omega⟩
 have hg:gk W H T n=4:=gk_eq h (by omega) h1 (by simpa using h2)
 subst hr
 simp only [whK,whX,whY,whT,whE,if_pos hN,wx,wy,wt,wq,hg,gd,gw]
 simp
theorem rwhat_in (W H T n:Int) (w:World) (h:okA W H T) (t:inB n (nodesO W H T)=true) :
  Calls Tryz.prog 111 #[.agg #[.int .i64 W,.int .i64 H,.int .i64 T],.int .i64 n] w fun e w'=>e=.returned (whatV (whK W H T n) (whX W H T n) (whY W H T n) (whT W H T n) (whE W H T n))∧Below w.heap.size w w':=by
 have hn:0<=n∧n<rb W H T 6:=by have t2:=t;simp [inB,nodesO,h] at t2;exact t2
 have HN:=hd_ hn
 have hh:=h
 unfold okA at hh
 have hnb:=rb_bd h (k:=6) (by omega)
 have hn1:0<=n∧n<=87040:=by omega
 clear hn hnb
 go_enter Tryz.func111,Tryz.ntmps111
 go_wp2_with (first
  | (go_at_call 83;refine (rcheck_yes W H T _ h).mono ?_;rintro e w1 ⟨rfl,hb1⟩;obtain ⟨hc1,hf1⟩:=bcell hb1)
  | (go_at_call 110;refine (rnodes_any W H T _).mono ?_;rintro e w2 ⟨rfl,hb2⟩)
  | (go_at_call 126;refine (in_any _ _ _).mono ?_;rintro e wi ⟨rfl,rfl⟩))
 clear hc1 hf1
 have hz1:w.heap.size<w1.heap.size:=by have:=hb1.size;simp at this;omega
 have hB:Below (w.heap.size+1) (w.alloc (.cells #[.int .i64 W,.int .i64 H,.int .i64 T] 23)) w2:=(hb1.mono (by simp)).trans (hb2.mono (by omega))
 have HO:=hd_ h
 clear h hb1 hb2 t
 go_loopw [9] (fun v wr=>∃ j:Nat,1<=j∧j<=5∧n<rb W H T (j+1)∧v=.int .i64 (j:Int)∧Below (w.heap.size+1) (w.alloc (.cells #[.int .i64 W,.int .i64 H,.int .i64 T] 23)) wr) (fun v _=>(intOf v).toNat)
 case atStart=>exact ⟨5,by omega,by omega,HN.out.2,rfl,hB⟩
 case round =>
  obtain ⟨j,hj1,hj2,hup,rfl,hbr⟩:=hrel
  have hzr:w.heap.size<wr.heap.size:=by have:=hbr.size;simp at this;omega
  have hW0:Below w.heap.size w wr:=(br_.alloc (Nat.le_refl _) _).trans (hbr.mono (by omega))
  have kk:wr.cell? ⟨w.heap.size,0,none⟩=some (.int .i64 W)∧wr.cell? ⟨w.heap.size,1,none⟩=some (.int .i64 H)∧wr.cell? ⟨w.heap.size,2,none⟩=some (.int .i64 T):=by
   refine ⟨?_,?_,?_⟩ <;> (rw [hbr.cell (by simp)];go_simp)
  obtain ⟨k0,k1,k2⟩:=kk
  have hrb:=rb_bd HO.out (k:=j) (by omega)
  by_cases hlt:n<rb W H T j
  ·go_wp2_with (go_at_call 128;refine (begin_i W H T j _ rfl _ HO.out (by omega)).mono ?_;rintro e w3 ⟨rfl,hb3⟩)
   go_roundw
   case rel =>
    have hj0:j≠1:=by rintro rfl;have e0:rb W H T 1=0:=rfl;omega
    refine ⟨j-1,by omega,by omega,?_,?_,hbr.trans (hb3.mono (by omega))⟩
    ·rw [show j-1+1=j from by omega];exact hlt
    ·rw [show ((j-1:Nat):Int)=(j:Int)-1 from by omega]
   case measure=>simp [intOf];omega
  ·have hge:rb W H T j<=n:=by omega
   have HL:=hd_ hge
   have HU:=hd_ hup
   clear hge hup
   have hj:j=1∨j=2∨j=3∨j=4∨j=5:=by omega
   rcases hj with rfl|rfl|rfl|rfl|rfl
   ·have hp0:0<=n-rb W H T 1:=by omega
    have hp3:0<=(n-rb W H T 1)/W:=Int.ediv_nonneg hp0 (by omega)
    have hp4:(n-rb W H T 1)/W<=(n-rb W H T 1):=Int.ediv_le_self _ hp0
    have HV:=hd_ (wh_0 (r:=n-rb W H T 1) HO.out rfl HL.out HU.out)
    go_wp2_with fail
    refine (begin_i W H T 1 _ rfl _ HO.out (by omega)).mono ?_
    rintro e w3 ⟨rfl,hb3⟩
    have q0:=(hb3.cell (p:=⟨w.heap.size,0,none⟩) hzr).trans k0
    have q1:=(hb3.cell (p:=⟨w.heap.size,1,none⟩) hzr).trans k1
    have q2:=(hb3.cell (p:=⟨w.heap.size,2,none⟩) hzr).trans k2
    have hz3:w.heap.size<w3.heap.size:=by have:=hb3.size;omega
    go_wp2_with fail
    refine (begin_i W H T 1 _ rfl _ HO.out (by omega)).mono ?_
    rintro e w4 ⟨rfl,hb4⟩
    have s0:=(hb4.cell (p:=⟨w.heap.size,0,none⟩) hz3).trans q0
    have s1:=(hb4.cell (p:=⟨w.heap.size,1,none⟩) hz3).trans q1
    have s2:=(hb4.cell (p:=⟨w.heap.size,2,none⟩) hz3).trans q2
    have hb43:=hb4.mono (B':=w.heap.size) (by omega)
    have hb33:=hb3.mono (B':=w.heap.size) (by omega)
    clear hb4 hb3
    go_wp2
    go_quiet (fail)
    go_wp2
    refine bodyPost_ret (results_tmp5 rfl _ _ _) rfl ?_
    obtain ⟨v1,v2,v3,v4,v5⟩:=HV.out
    exact ⟨by rw [v1,v2,v3,v4,v5];rfl,below_drewN ((hW0.trans hb33).trans hb43) _⟩
   ·have hp0:0<=n-rb W H T 2:=by omega
    have hp1:0<=(n-rb W H T 2)/4:=Int.ediv_nonneg hp0 (by omega)
    have hp2:(n-rb W H T 2)/4<=(n-rb W H T 2):=Int.ediv_le_self _ hp0
    have hp3:0<=(n-rb W H T 2)/4/W:=Int.ediv_nonneg hp1 (by omega)
    have hp4:(n-rb W H T 2)/4/W<=(n-rb W H T 2)/4:=Int.ediv_le_self _ hp1
    have HV:=hd_ (wh_1 (r:=n-rb W H T 2) HO.out rfl HL.out HU.out)
    go_wp2_with fail
    refine (begin_i W H T 2 _ rfl _ HO.out (by omega)).mono ?_
    rintro e w3 ⟨rfl,hb3⟩
    have q0:=(hb3.cell (p:=⟨w.heap.size,0,none⟩) hzr).trans k0
    have q1:=(hb3.cell (p:=⟨w.heap.size,1,none⟩) hzr).trans k1
    have q2:=(hb3.cell (p:=⟨w.heap.size,2,none⟩) hzr).trans k2
    have hz3:w.heap.size<w3.heap.size:=by have:=hb3.size;omega
    go_wp2_with fail
    refine (begin_i W H T 2 _ rfl _ HO.out (by omega)).mono ?_
    rintro e w4 ⟨rfl,hb4⟩
    have s0:=(hb4.cell (p:=⟨w.heap.size,0,none⟩) hz3).trans q0
    have s1:=(hb4.cell (p:=⟨w.heap.size,1,none⟩) hz3).trans q1
    have s2:=(hb4.cell (p:=⟨w.heap.size,2,none⟩) hz3).trans q2
    have hb43:=hb4.mono (B':=w.heap.size) (by omega)
    have hb33:=hb3.mono (B':=w.heap.size) (by omega)
    clear hb4 hb3
    go_wp2
    go_quiet (fail)
    go_wp2
    refine bodyPost_ret (results_tmp5 rfl _ _ _) rfl ?_
    obtain ⟨v1,v2,v3,v4,v5⟩:=HV.out
    exact ⟨by rw [v1,v2,v3,v4,v5];rfl,below_drewN ((hW0.trans hb33).trans hb43) _⟩
   ·have hp0:0<=n-rb W H T 3:=by omega
    have HV:=hd_ (wh_2 (r:=n-rb W H T 3) HO.out rfl HL.out HU.out)
    go_wp2_with fail
    refine (begin_i W H T 3 _ rfl _ HO.out (by omega)).mono ?_
    rintro e w3 ⟨rfl,hb3⟩
    have q0:=(hb3.cell (p:=⟨w.heap.size,0,none⟩) hzr).trans k0
    have q1:=(hb3.cell (p:=⟨w.heap.size,1,none⟩) hzr).trans k1
    have q2:=(hb3.cell (p:=⟨w.heap.size,2,none⟩) hzr).trans k2
    have hz3:w.heap.size<w3.heap.size:=by have:=hb3.size;omega
    go_wp2_with fail
    refine (begin_i W H T 3 _ rfl _ HO.out (by omega)).mono ?_
    rintro e w4 ⟨rfl,hb4⟩
    have s0:=(hb4.cell (p:=⟨w.heap.size,0,none⟩) hz3).trans q0
    have s1:=(hb4.cell (p:=⟨w.heap.size,1,none⟩) hz3).trans q1
    have s2:=(hb4.cell (p:=⟨w.heap.size,2,none⟩) hz3).trans q2
    have hb43:=hb4.mono (B':=w.heap.size) (by omega)
    have hb33:=hb3.mono (B':=w.heap.size) (by omega)
    clear hb4 hb3
    go_wp2
    refine bodyPost_ret (results_tmp5 rfl _ _ _) rfl ?_
    obtain ⟨v1,v2,v3,v4,v5⟩:=HV.out
    exact ⟨by rw [v1,v2,v3,v4,v5];rfl,(hW0.trans hb33).trans hb43⟩
   ·have hp0:0<=n-rb W H T 4:=by omega
    have hp1:0<=(n-rb W H T 4)/T:=Int.ediv_nonneg hp0 (by omega)
    have hp2:(n-rb W H T 4)/T<=(n-rb W H T 4):=Int.ediv_le_self _ hp0
    have hp3:0<=(n-rb W H T 4)/T/W:=Int.ediv_nonneg hp1 (by omega)
    have hp4:(n-rb W H T 4)/T/W<=(n-rb W H T 4)/T:=Int.ediv_le_self _ hp1
    have HV:=hd_ (wh_3 (r:=n-rb W H T 4) HO.out rfl HL.out HU.out)
    go_wp2_with fail
    refine (begin_i W H T 4 _ rfl _ HO.out (by omega)).mono ?_
    rintro e w3 ⟨rfl,hb3⟩
    have q0:=(hb3.cell (p:=⟨w.heap.size,0,none⟩) hzr).trans k0
    have q1:=(hb3.cell (p:=⟨w.heap.size,1,none⟩) hzr).trans k1
    have q2:=(hb3.cell (p:=⟨w.heap.size,2,none⟩) hzr).trans k2
    have hz3:w.heap.size<w3.heap.size:=by have:=hb3.size;omega
    go_wp2_with fail
    refine (begin_i W H T 4 _ rfl _ HO.out (by omega)).mono ?_
    rintro e w4 ⟨rfl,hb4⟩
    have s0:=(hb4.cell (p:=⟨w.heap.size,0,none⟩) hz3).trans q0
    have s1:=(hb4.cell (p:=⟨w.heap.size,1,none⟩) hz3).trans q1
    have s2:=(hb4.cell (p:=⟨w.heap.size,2,none⟩) hz3).trans q2
    have hb43:=hb4.mono (B':=w.heap.size) (by omega)
    have hb33:=hb3.mono (B':=w.heap.size) (by omega)
    clear hb4 hb3
    go_wp2
    go_quiet (fail)
    go_wp2
    refine bodyPost_ret (results_tmp5 rfl _ _ _) rfl ?_
    obtain ⟨v1,v2,v3,v4,v5⟩:=HV.out
    exact ⟨by rw [v1,v2,v3,v4,v5];rfl,below_drewN ((hW0.trans hb33).trans hb43) _⟩
   ·have hp0:0<=n-rb W H T 5:=by omega
    have hp1:0<=(n-rb W H T 5)/T:=Int.ediv_nonneg hp0 (by omega)
    have hp2:(n-rb W H T 5)/T<=(n-rb W H T 5):=Int.ediv_le_self _ hp0
    have hp3:0<=(n-rb W H T 5)/T/(W+1):=Int.ediv_nonneg hp1 (by omega)
    have hp4:(n-rb W H T 5)/T/(W+1)<=(n-rb W H T 5)/T:=Int.ediv_le_self _ hp1
    have ew:IntKind.i64.wrap (W+1)=W+1:=IntWalk.i64_in _ (by omega)
    have HV:=hd_ (wh_4 (r:=n-rb W H T 5) HO.out rfl HL.out HU.out)
    go_wp2_with fail
    refine (begin_i W H T 5 _ rfl _ HO.out (by omega)).mono ?_
    rintro e w3 ⟨rfl,hb3⟩
    have q0:=(hb3.cell (p:=⟨w.heap.size,0,none⟩) hzr).trans k0
    have q1:=(hb3.cell (p:=⟨w.heap.size,1,none⟩) hzr).trans k1
    have q2:=(hb3.cell (p:=⟨w.heap.size,2,none⟩) hzr).trans k2
    have hz3:w.heap.size<w3.heap.size:=by have:=hb3.size;omega
    go_wp2_with fail
    refine (begin_i W H T 5 _ rfl _ HO.out (by omega)).mono ?_
    rintro e w4 ⟨rfl,hb4⟩
    have s0:=(hb4.cell (p:=⟨w.heap.size,0,none⟩) hz3).trans q0
    have s1:=(hb4.cell (p:=⟨w.heap.size,1,none⟩) hz3).trans q1
    have s2:=(hb4.cell (p:=⟨w.heap.size,2,none⟩) hz3).trans q2
    have hb43:=hb4.mono (B':=w.heap.size) (by omega)
    have hb33:=hb3.mono (B':=w.heap.size) (by omega)
    clear hb4 hb3
    go_wp2
    go_quiet (fail)
    go_wp2
    refine bodyPost_ret (results_tmp5 rfl _ _ _) rfl ?_
    obtain ⟨v1,v2,v3,v4,v5⟩:=HV.out
    exact ⟨by rw [v1,v2,v3,v4,v5];rfl,below_drewN ((hW0.trans hb33).trans hb43) _⟩
theorem rwhat_any (W H T n:Int) (w:World) :
  Calls Tryz.prog 111 #[.agg #[.int .i64 W,.int .i64 H,.int .i64 T],.int .i64 n] w fun e w'=>e=.returned (whatV (whK W H T n) (whX W H T n) (whY W H T n) (whT W H T n) (whE W H T n))∧Below w.heap.size w w':=by
 by_cases h:okA W H T
 ·cases t:inB n (nodesO W H T)
  ·have hn:¬ isN W H T n:=by
    intro hh
    have:=hh.2
    simp [inB,nodesO,h] at t
    omega
   obtain ⟨v1,v2,v3,v4,v5⟩:=wh_no hn
   rw [v1,v2,v3,v4,v5]
   exact rwhat_out W H T n w h t
  ·exact rwhat_in W H T n w h t
 ·obtain ⟨v1,v2,v3,v4,v5⟩:=wh_no (fun hh=>h hh.1)
  rw [v1,v2,v3,v4,v5]
  exact rwhat_bad W H T n w h
end Go.Proofs.YtmkiphadkmodnaaGreat
