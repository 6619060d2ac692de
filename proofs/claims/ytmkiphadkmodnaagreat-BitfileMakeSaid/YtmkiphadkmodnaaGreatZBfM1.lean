/- BfM, 1 -/
import Derived.BigQuiet
import Derived.Deep.QuietTactic
import Derived.Test.YtmkiphadkmodnaaGreatZBfM0
set_option linter.all false
set_option maxRecDepth 100000
set_option maxHeartbeats 8000000
namespace Go.Proofs.YtmkiphadkmodnaaGreat
open Go.RowKit
theorem check_core (W H T m M:Int) (w:World) (hm:(if T<(if H<W then H else W) then T else (if H<W then H else W))=m) (hM:(if W<H then H else W)=M) :
  Calls Tryz.prog 36 #[.agg #[.int .i64 W,.int .i64 H,.int .i64 T]] w fun e w'=>(e=.returned (.int .i64 (if m<1∨16<M∨16<T then 1 else 0)))∧Below w.heap.size w w':=by
 by_cases c1:m<1
 ·go_enter Tryz.func36,Tryz.ntmps36
  go_wp2
  go_ret
  exact ⟨by simp [c1],br_.alloc (Nat.le_refl _) _⟩
 ·by_cases c2:16<M
  ·go_enter Tryz.func36,Tryz.ntmps36
   go_wp2
   go_ret
   exact ⟨by simp [c2],br_.alloc (Nat.le_refl _) _⟩
  ·by_cases c3:16<T
   ·go_enter Tryz.func36,Tryz.ntmps36
    go_wp2
    go_ret
    exact ⟨by simp [c3],br_.alloc (Nat.le_refl _) _⟩
   ·go_enter Tryz.func36,Tryz.ntmps36
    go_wp2
    go_ret
    exact ⟨by simp [c1,c2,c3],br_.alloc (Nat.le_refl _) _⟩
theorem check_yes (W H T:Int) (w:World) (h:okA W H T) :
  Calls Tryz.prog 36 #[.agg #[.int .i64 W,.int .i64 H,.int .i64 T]] w fun e w'=>e=.returned (.int .i64 0)∧Below w.heap.size w w':=by
 refine (check_core W H T _ _ w rfl rfl).mono fun e w' ⟨he,hb⟩=>⟨?_,hb⟩
 rw [he,if_neg]
 unfold okA at h
 split <;> split <;> split <;> omega
theorem check_no (W H T:Int) (w:World) (h:¬ okA W H T) :
  Calls Tryz.prog 36 #[.agg #[.int .i64 W,.int .i64 H,.int .i64 T]] w fun e w'=>e=.returned (.int .i64 1)∧Below w.heap.size w w':=by
 refine (check_core W H T _ _ w rfl rfl).mono fun e w' ⟨he,hb⟩=>⟨?_,hb⟩
 rw [he,if_pos]
 unfold okA at h
 split <;> split <;> split <;> omega
theorem many_any (k a b c:Int) (w:World) (h1:0<=a*b) (h2:a*b<=100000) (h3:0<=a*b*c) (h4:a*b*c<=100000) :
  Calls Tryz.prog 102 #[.agg #[.int .i64 k,.int .i64 a,.int .i64 b,.int .i64 c]] w fun e w'=>e=.returned (.int .i64 (a*b*c))∧Below w.heap.size w w':=by
 go_enter Tryz.func102,Tryz.ntmps102
 go_wp2
 go_ret
 exact ⟨rfl,br_.alloc (Nat.le_refl _) _⟩
end Go.Proofs.YtmkiphadkmodnaaGreat
namespace Go.Proofs.YtmkiphadkmodnaaGreat
open Go.RowKit
def gridsC (W H T:Int):List Value:=[.int .i64 1,.int .i64 W,.int .i64 H,.int .i64 1,.int .i64 2,.int .i64 W,.int .i64 H,.int .i64 4,.int .i64 3,.int .i64 (2*W+2*H),.int .i64 1,.int .i64 1,.int .i64 4,.int .i64 W,.int .i64 (H+1),.int .i64 T,.int .i64 5,.int .i64 (W+1),.int .i64 H,.int .i64 T]
abbrev gridsV (W H T:Int):Value:=.agg (gridsC W H T).toArray
theorem grids_ok (W H T:Int) (w:World) (h:okA W H T) :
  Calls Tryz.prog 92 #[.agg #[.int .i64 W,.int .i64 H,.int .i64 T]] w fun e w'=>e=.returned (gridsV W H T)∧Below w.heap.size w w':=by
 obtain ⟨⟨h1,h2⟩,⟨h3,h4⟩,h5,h6⟩:=h
 go_enter Tryz.func92,Tryz.ntmps92
 have hi:(Tryz.prog.info? 133).map (·.size)=some 20:=by kernel_rfl
 have hbt:∀ (W H T:Int),Tryz.prog.built 133 [(0,.agg #[.int .i64 1,.int .i64 W,.int .i64 H,.int .i64 1]),(1,.agg #[.int .i64 2,.int .i64 W,.int .i64 H,.int .i64 4]),(2,.agg #[.int .i64 3,.int .i64 (2*W+2*H),.int .i64 1,.int .i64 1]),(3,.agg #[.int .i64 4,.int .i64 W,.int .i64 (H+1),.int .i64 T]),(4,.agg #[.int .i64 5,.int .i64 (W+1),.int .i64 H,.int .i64 T])]=some (gridsC W H T).toArray:=fun _ _ _=>by kernel_rfl
 have HB:=hd_ hbt
 clear hbt
 go_wp2_with (first|((with_reducible refine wpList_build_to rfl 133 _ rfl _ rfl (gridsC W H T).toArray ?_ ?_);(· exact HB.out W H T))|((with_reducible apply wpList_store_new (cells:=gridsC W H T) rfl 133 (.tmp 2) (.tmp 37) rfl);(case hW=>exact rfl);(case hx=>exact rfl);(case hn=>simp);(case hy=>rfl);(case hl=>rfl);(case hi=>exact hi);(case h1=>rfl)))
 refine bodyPost_ret (v:=gridsV W H T) ?_ rfl ⟨rfl,?_⟩
 ·exact results_cell_row rfl _ _ (w.heap.size+1) 133 _ (0,0) _ rfl (by simpa using heap_alloc_new (w.alloc _) _) Tryz.underlying133 rfl hi
 ·exact (br_.alloc (Nat.le_refl _) _).alloc (by simp) _
end Go.Proofs.YtmkiphadkmodnaaGreat
namespace Go.Proofs.YtmkiphadkmodnaaGreat
open Go.RowKit
theorem grid_at (W H T:Int) {k:Nat} (hk:k<5) (w:World) :
  (Instr.index 133 (.agg (gridsC W H T).toArray) (.int .i64 (k:Int))).run Tryz.prog w=.ok (.agg #[.int .i64 ((k:Int)+1),.int .i64 (gw W H k),.int .i64 (gh H k),.int .i64 (gd T k)]) w:=by
 rcases lt5 hk with rfl|rfl|rfl|rfl|rfl <;> kernel_rfl
theorem nodes_no (W H T:Int) (w:World) (h:¬ okA W H T) :
  Calls Tryz.prog 68 #[.agg #[.int .i64 W,.int .i64 H,.int .i64 T]] w fun e w'=>e=.returned (.int .i64 0)∧Below w.heap.size w w':=by
 go_enter Tryz.func68,Tryz.ntmps68
 go_wp2_with (go_at_call 36;refine (check_no W H T _ h).mono ?_;rintro e w1 ⟨rfl,hb1⟩)
 go_ret
 exact ⟨rfl,(br_.alloc (Nat.le_refl _) _).trans (hb1.mono (by simp))⟩
theorem nodes_yes (W H T:Int) (w:World) (h:okA W H T) :
  Calls Tryz.prog 68 #[.agg #[.int .i64 W,.int .i64 H,.int .i64 T]] w fun e w'=>e=.returned (.int .i64 (nodesI W H T))∧Below w.heap.size w w':=by
 go_enter Tryz.func68,Tryz.ntmps68
 go_wp2_with (first
  | (go_at_call 36;refine (check_yes W H T _ h).mono ?_;rintro e w1 ⟨rfl,hb1⟩;obtain ⟨hc1,hf1⟩:=bcell hb1)
  | (go_at_call 92;refine (grids_ok W H T _ h).mono ?_;rintro e w2 ⟨rfl,hb2⟩))
 clear hc1 hf1
 have hB:Below w.heap.size w w2:=((br_.alloc (Nat.le_refl _) _).trans (hb1.mono (by simp))).trans (hb2.mono (by have:=hb1.size;simp at this;omega))
 clear hb1 hb2
 have H0:=hd_ h
 clear h
 go_loopw [3,11] (fun n i wr=>∃ k:Nat,k<=5∧i=.int .i64 (k:Int)∧n=.int .i64 (gat W H T k)∧Below w.heap.size w wr) (fun _ i _=>5-(intOf i).toNat)
 case atStart=>exact ⟨0,by omega,rfl,rfl,hB⟩
 case round =>
  obtain ⟨k,hk,rfl,rfl,hbr⟩:=hrel
  by_cases hlt:k<5
  ·have hix:=grid_at W H T hlt
   have hq:=g_bd2 H0.out hlt
   have hq2:=gat_bd H0.out hk
   go_wp2_with (go_at_call 102;refine (many_any _ _ _ _ _ (by omega) (by omega) (by omega) (by omega)).mono ?_;rintro e w3 ⟨rfl,hb3⟩)
   go_roundw
   case rel=>exact ⟨k+1,by omega,by go_num,rfl,(hbr.alloc hbr.size _).trans (hb3.mono (by have:=hbr.size;simp;omega))⟩
   case measure=>simp [intOf];omega
  ·obtain rfl:k=5:=by omega
   go_wp2
   go_ret
   exact ⟨rfl,hbr⟩
end Go.Proofs.YtmkiphadkmodnaaGreat
namespace Go.Proofs.YtmkiphadkmodnaaGreat
open Go.RowKit
theorem what_low (W H T n:Int) (w:World) (h:n<0) :
  Calls Tryz.prog 69 #[.agg #[.int .i64 W,.int .i64 H,.int .i64 T],.int .i64 n] w fun e w'=>e=.returned (whatV 0 0 0 0 1)∧Below w.heap.size w w':=by
 go_enter Tryz.func69,Tryz.ntmps69
 go_wp2_with fail
 refine bodyPost_ret (results_tmp5 rfl _ _ _) rfl ?_
 exact ⟨rfl,br_.alloc (Nat.le_refl _) _⟩
theorem what_no (W H T n:Int) (w:World) (h:¬ okA W H T) (hn:0<=n) :
  Calls Tryz.prog 69 #[.agg #[.int .i64 W,.int .i64 H,.int .i64 T],.int .i64 n] w fun e w'=>e=.returned (whatV 0 0 0 0 1)∧Below w.heap.size w w':=by
 go_enter Tryz.func69,Tryz.ntmps69
 go_wp2_with (go_at_call 68;refine (nodes_no W H T _ h).mono ?_;rintro e w1 ⟨rfl,hb1⟩)
 refine bodyPost_ret (results_tmp5 rfl _ _ _) rfl ?_
 exact ⟨rfl,(br_.alloc (Nat.le_refl _) _).trans (hb1.mono (by simp))⟩
theorem what_high (W H T n:Int) (w:World) (h:okA W H T) (hn:0<=n) (hm:nodesI W H T<=n) :
  Calls Tryz.prog 69 #[.agg #[.int .i64 W,.int .i64 H,.int .i64 T],.int .i64 n] w fun e w'=>e=.returned (whatV 0 0 0 0 1)∧Below w.heap.size w w':=by
 go_enter Tryz.func69,Tryz.ntmps69
 go_wp2_with (go_at_call 68;refine (nodes_yes W H T _ h).mono ?_;rintro e w1 ⟨rfl,hb1⟩)
 refine bodyPost_ret (results_tmp5 rfl _ _ _) rfl ?_
 exact ⟨rfl,(br_.alloc (Nat.le_refl _) _).trans (hb1.mono (by simp))⟩
theorem what_yes (W H T n:Int) (w:World) (h:okA W H T) (hn:0<=n) (hm:n<nodesI W H T) :
  Calls Tryz.prog 69 #[.agg #[.int .i64 W,.int .i64 H,.int .i64 T],.int .i64 n] w fun e w'=>e=.returned (whatV ((gk W H T n:Int)+1) (wx W H T n) (wy W H T n) (wt W H T n) 0)∧Below w.heap.size w w':=by
 have hnb:=nodes_bd h
 go_enter Tryz.func69,Tryz.ntmps69
 go_wp2_with (first
  | (go_at_call 68;refine (nodes_yes W H T _ h).mono ?_;rintro e w1 ⟨rfl,hb1⟩;obtain ⟨hc1,hf1⟩:=bcell hb1)
  | (go_at_call 92;refine (grids_ok W H T _ h).mono ?_;rintro e w2 ⟨rfl,hb2⟩))
 clear hc1 hf1
 have hB:Below w.heap.size w w2:=((br_.alloc (Nat.le_refl _) _).trans (hb1.mono (by simp))).trans (hb2.mono (by have:=hb1.size;simp at this;omega))
 clear hb1 hb2
 have H0:=hd_ h
 clear h
 go_loopw [1,22] (fun m i wr=>∃ k:Nat,k<=5∧i=.int .i64 (k:Int)∧gat W H T k<=n∧m=.int .i64 (n-gat W H T k)∧Below w.heap.size w wr) (fun _ i _=>5-(intOf i).toNat)
 case atStart=>exact ⟨0,by omega,rfl,by simpa [gat] using hn,by simp [gat],hB⟩
 case round =>
  obtain ⟨k,hk,rfl,hge,rfl,hbr⟩:=hrel
  by_cases hlt:k<5
  ·have hix:=grid_at W H T hlt
   have hq:=g_bd2 H0.out hlt
   have hq2:=gat_bd H0.out hk
   have hq3:=g_bd H0.out hlt
   by_cases hin:n-gat W H T k<gw W H k*gh H k*gd T k
   ·have hp1:0<=(n-gat W H T k)/gd T k:=Int.ediv_nonneg (by omega) (by omega)
    have hp2:(n-gat W H T k)/gd T k<=n-gat W H T k:=Int.ediv_le_self _ (by omega)
    have hp3:0<=(n-gat W H T k)/gd T k/gw W H k:=Int.ediv_nonneg (by omega) (by omega)
    have hp4:(n-gat W H T k)/gd T k/gw W H k<=(n-gat W H T k)/gd T k:=Int.ediv_le_self _ (by omega)
    go_wp2_with (go_at_call 102;refine (many_any _ _ _ _ _ (by omega) (by omega) (by omega) (by omega)).mono ?_;rintro e w3 ⟨rfl,hb3⟩;obtain ⟨hc3,hf3⟩:=bcell hb3)
    go_quiet (fail)
    go_wp2
    refine bodyPost_ret (results_tmp5 rfl _ _ _) rfl ?_
    have hg:=gk_eq H0.out hlt hge (by simp only [gat,gmany];omega)
    refine ⟨?_,?_⟩
    ·simp only [whatV,wx,wy,wt,wq,hg]
     rfl
    ·exact below_drewN ((hbr.alloc hbr.size _).trans (hb3.mono (by have:=hbr.size;simp;omega))) _
   ·go_wp2_with fail
    refine (many_any _ _ _ _ _ (by omega) (by omega) (by omega) (by omega)).mono ?_
    rintro e w3 ⟨rfl,hb3⟩
    obtain ⟨hc3,hf3⟩:=bcell hb3
    go_wp2_with fail
    refine (many_any _ _ _ _ _ (by omega) (by omega) (by omega) (by omega)).mono ?_
    rintro e w4 ⟨rfl,hb4⟩
    go_wp2_with fail
    have hw3:Below w.heap.size w w3:=(hbr.alloc hbr.size _).trans (hb3.mono (by have:=hbr.size;simp;omega))
    go_roundw
    case rel=>exact ⟨k+1,by omega,by go_num,by simp only [gat,gmany];omega,by simp only [gat,gmany];go_num,hw3.trans (hb4.mono hw3.size)⟩
    case measure=>simp [intOf];omega
  ·obtain rfl:k=5:=by omega
   exfalso;unfold nodesI at hm;omega
end Go.Proofs.YtmkiphadkmodnaaGreat
namespace Go.Proofs.YtmkiphadkmodnaaGreat
open Go.RowKit
theorem node_no (W H T kd x y t:Int) (w:World) (h:¬ okA W H T) :
  Calls Tryz.prog 67 #[.agg #[.int .i64 W,.int .i64 H,.int .i64 T],.int .i64 kd,.int .i64 x,.int .i64 y,.int .i64 t] w fun e w'=>e=.returned (pairV 0 1)∧Below w.heap.size w w':=by
 go_enter Tryz.func67,Tryz.ntmps67
 go_wp2_with (go_at_call 36;refine (check_no W H T _ h).mono ?_;rintro e w1 ⟨rfl,hb1⟩)
 go_ret2
 exact ⟨rfl,(br_.alloc (Nat.le_refl _) _).trans (hb1.mono (by simp))⟩
theorem node_core (W H T x y t:Int) (c:Nat) (w:World) (h:okA W H T) (hc:c<5) :
  Calls Tryz.prog 67 #[.agg #[.int .i64 W,.int .i64 H,.int .i64 T],.int .i64 ((c:Int)+1),.int .i64 x,.int .i64 y,.int .i64 t] w fun e w'=>e=.returned (if inG W H T c x y t then pairV (nodeAt W H T c x y t) 0 else pairV 0 1)∧Below w.heap.size w w':=by
 obtain ⟨m,hm⟩:∃ m,(if t<(if y<x then y else x) then t else (if y<x then y else x))=m:=⟨_,rfl⟩
 have HM:=hd_ hm
 go_enter Tryz.func67,Tryz.ntmps67
 go_wp2_with (first
  | (go_at_call 36;refine (check_yes W H T _ h).mono ?_;rintro e w1 ⟨rfl,hb1⟩;obtain ⟨hc1,hf1⟩:=bcell hb1)
  | (go_at_call 92;refine (grids_ok W H T _ h).mono ?_;rintro e w2 ⟨rfl,hb2⟩))
 clear hc1 hf1
 have hB:Below w.heap.size w w2:=((br_.alloc (Nat.le_refl _) _).trans (hb1.mono (by simp))).trans (hb2.mono (by have:=hb1.size;simp at this;omega))
 clear hb1 hb2
 have H0:=hd_ h
 clear h
 go_loopw [12,20] (fun n i wr=>∃ k:Nat,k<=c∧i=.int .i64 (k:Int)∧n=.int .i64 (gat W H T k)∧Below w.heap.size w wr) (fun _ i _=>5-(intOf i).toNat)
 case atStart=>exact ⟨0,by omega,rfl,rfl,hB⟩
 case round =>
  obtain ⟨k,hk,rfl,rfl,hbr⟩:=hrel
  have hlt:k<5:=by omega
  have hix:=grid_at W H T hlt
  have hq:=g_bd2 H0.out hlt
  have hq2:=gat_bd H0.out (k:=k) (by omega)
  by_cases hkc:k<c
  ·have hne:((k:Int)+1==(c:Int)+1)=false:=by simp;omega
   go_wp2_with (go_at_call 102;refine (many_any _ _ _ _ _ (by omega) (by omega) (by omega) (by omega)).mono ?_;rintro e w3 ⟨rfl,hb3⟩)
   go_roundw
   case rel=>exact ⟨k+1,by omega,by go_num,rfl,(hbr.alloc hbr.size _).trans (hb3.mono (by have:=hbr.size;simp;omega))⟩
   case measure=>simp [intOf];omega
  ·obtain rfl:k=c:=by omega
   clear hkc
   have hbb:=hbr.alloc hbr.size (.cells #[.int .i64 ((k:Int)+1),.int .i64 (gw W H k),.int .i64 (gh H k),.int .i64 (gd T k)] 132)
   by_cases c1:m<0
   ·have hno:¬ inG W H T k x y t:=by have:=HM.out;unfold inG;split at this <;> split at this <;> omega
    have HN:=hd_ hno
    clear hno
    go_wp2
    go_ret2
    exact ⟨rfl,hbb⟩
   ·have hx0:0<=x∧0<=y∧0<=t:=by have:=HM.out;split at this <;> split at this <;> omega
    by_cases c2:gw W H k<=x
    ·have HN:=hd_ (show ¬ inG W H T k x y t from by unfold inG;omega)
     go_wp2
     go_ret2
     exact ⟨rfl,hbb⟩
    ·by_cases c3:gh H k<=y
     ·have HN:=hd_ (show ¬ inG W H T k x y t from by unfold inG;omega)
      go_wp2
      go_ret2
      exact ⟨rfl,hbb⟩
     ·by_cases c4:gd T k<=t
      ·have HN:=hd_ (show ¬ inG W H T k x y t from by unfold inG;omega)
       go_wp2
       go_ret2
       exact ⟨rfl,hbb⟩
      ·have HN:=hd_ (show inG W H T k x y t from by unfold inG;omega)
       have r1:=row_lt (a:=gw W H k) (b:=gh H k) hx0.1 (by omega) hx0.2.1 (by omega)
       have r2:=row_lt (a:=gd T k) (b:=gw W H k*gh H k) hx0.2.2 (by omega) r1.1 r1.2
       have r3:0<=y*gw W H k:=Int.mul_nonneg hx0.2.1 (by have:=g_bd H0.out hlt;omega)
       rw [Int.mul_comm (gd T k)] at r2
       have r4:0<=(y*gw W H k+x)*gd T k:=Int.mul_nonneg r1.1 (by have:=g_bd H0.out hlt;omega)
       go_wp2
       go_ret2
       exact ⟨rfl,hbb⟩
end Go.Proofs.YtmkiphadkmodnaaGreat
namespace Go.Proofs.YtmkiphadkmodnaaGreat
open Go.RowKit
theorem check_any (W H T:Int) (w:World) :
  Calls Tryz.prog 36 #[.agg #[.int .i64 W,.int .i64 H,.int .i64 T]] w fun e w'=>e=.returned (.int .i64 (chkE W H T))∧Below w.heap.size w w':=by
 unfold chkE
 by_cases h:okA W H T
 ·rw [if_pos h];exact check_yes W H T w h
 ·rw [if_neg h];exact check_no W H T w h
theorem nodes_any (W H T:Int) (w:World) :
  Calls Tryz.prog 68 #[.agg #[.int .i64 W,.int .i64 H,.int .i64 T]] w fun e w'=>e=.returned (.int .i64 (nodesO W H T))∧Below w.heap.size w w':=by
 unfold nodesO
 by_cases h:okA W H T
 ·rw [if_pos h];exact nodes_yes W H T w h
 ·rw [if_neg h];exact nodes_no W H T w h
theorem what_any (W H T n:Int) (w:World) :
  Calls Tryz.prog 69 #[.agg #[.int .i64 W,.int .i64 H,.int .i64 T],.int .i64 n] w fun e w'=>e=.returned (whatV (whK W H T n) (whX W H T n) (whY W H T n) (whT W H T n) (whE W H T n))∧Below w.heap.size w w':=by
 unfold whK whX whY whT whE
 by_cases h:isN W H T n
 ·simp only [if_pos h];exact what_yes W H T n w h.1 h.2.1 h.2.2
 ·simp only [if_neg h]
  by_cases h0:n<0
  ·exact what_low W H T n w h0
  ·by_cases h1:okA W H T
   ·exact what_high W H T n w h1 (by omega) (by unfold isN at h;simp only [h1,true_and] at h;omega)
   ·exact what_no W H T n w h1 (by omega)
theorem node_any (W H T x y t:Int) (c:Nat) (w:World) (hc:c<5) :
  Calls Tryz.prog 67 #[.agg #[.int .i64 W,.int .i64 H,.int .i64 T],.int .i64 ((c:Int)+1),.int .i64 x,.int .i64 y,.int .i64 t] w fun e w'=>e=.returned (pairV (nodeN W H T c x y t) (nodeE W H T c x y t))∧Below w.heap.size w w':=by
 unfold nodeN nodeE
 by_cases h:okA W H T
 ·refine (node_core W H T x y t c w h hc).mono fun e w' ⟨he,hb⟩=>⟨?_,hb⟩
  rw [he]
  by_cases hg:inG W H T c x y t
  ·simp only [h,hg,and_self,if_true]
  ·simp only [h,hg,and_false,if_false]
 ·simp only [h,false_and,if_false]
  exact node_no W H T _ x y t w h
theorem pads_yes (W H T:Int) (w:World) (h:okA W H T) :
  Calls Tryz.prog 40 #[.agg #[.int .i64 W,.int .i64 H,.int .i64 T]] w fun e w'=>e=.returned (.int .i64 (2*W+2*H))∧Below w.heap.size w w':=by
 have hix:∀ w,(Instr.index 133 (.agg (gridsC W H T).toArray) (.int .i64 2)).run Tryz.prog w=.ok (.agg #[.int .i64 3,.int .i64 (2*W+2*H),.int .i64 1,.int .i64 1]) w:=fun w=>by kernel_rfl
 have hfl:∀ w,(Instr.field 132 (.agg #[.int .i64 3,.int .i64 (2*W+2*H),.int .i64 1,.int .i64 1]) 1).run Tryz.prog w=.ok (.int .i64 (2*W+2*H)) w:=fun w=>by kernel_rfl
 go_enter Tryz.func40,Tryz.ntmps40
 go_wp2_with (first
  | (go_at_call 36;refine (check_yes W H T _ h).mono ?_;rintro e w1 ⟨rfl,hb1⟩;obtain ⟨hc1,hf1⟩:=bcell hb1)
  | (go_at_call 92;refine (grids_ok W H T _ h).mono ?_;rintro e w2 ⟨rfl,hb2⟩))
 go_ret
 exact ⟨rfl,((br_.alloc (Nat.le_refl _) _).trans (hb1.mono (by simp))).trans (hb2.mono (by have:=hb1.size;simp at this;omega))⟩
theorem pads_no (W H T:Int) (w:World) (h:¬ okA W H T) :
  Calls Tryz.prog 40 #[.agg #[.int .i64 W,.int .i64 H,.int .i64 T]] w fun e w'=>e=.returned (.int .i64 0)∧Below w.heap.size w w':=by
 go_enter Tryz.func40,Tryz.ntmps40
 go_wp2_with (go_at_call 36;refine (check_no W H T _ h).mono ?_;rintro e w1 ⟨rfl,hb1⟩)
 go_ret
 exact ⟨rfl,(br_.alloc (Nat.le_refl _) _).trans (hb1.mono (by simp))⟩
theorem pads_any (W H T:Int) (w:World) :
  Calls Tryz.prog 40 #[.agg #[.int .i64 W,.int .i64 H,.int .i64 T]] w fun e w'=>e=.returned (.int .i64 (padsO W H T))∧Below w.heap.size w w':=by
 unfold padsO
 by_cases h:okA W H T
 ·rw [if_pos h];exact pads_yes W H T w h
 ·rw [if_neg h];exact pads_no W H T w h
theorem out_any (W H T x y:Int) (w:World) :
  Calls Tryz.prog 49 #[.agg #[.int .i64 W,.int .i64 H,.int .i64 T],.int .i64 x,.int .i64 y] w fun e w'=>e=.returned (pairV (nodeN W H T 0 x y 0) (nodeE W H T 0 x y 0))∧Below w.heap.size w w':=by
 go_enter Tryz.func49,Tryz.ntmps49
 go_wp2_with (go_at_call 67;refine (node_any W H T _ _ _ 0 _ (by omega)).mono ?_;rintro e w1 ⟨rfl,hb1⟩)
 go_ret2
 exact ⟨rfl,(br_.alloc (Nat.le_refl _) _).trans (hb1.mono (by simp))⟩
theorem inn_any (W H T x y k:Int) (w:World) :
  Calls Tryz.prog 50 #[.agg #[.int .i64 W,.int .i64 H,.int .i64 T],.int .i64 x,.int .i64 y,.int .i64 k] w fun e w'=>e=.returned (pairV (nodeN W H T 1 x y k) (nodeE W H T 1 x y k))∧Below w.heap.size w w':=by
 go_enter Tryz.func50,Tryz.ntmps50
 go_wp2_with (go_at_call 67;refine (node_any W H T _ _ _ 1 _ (by omega)).mono ?_;rintro e w1 ⟨rfl,hb1⟩)
 go_ret2
 exact ⟨rfl,(br_.alloc (Nat.le_refl _) _).trans (hb1.mono (by simp))⟩
theorem pad_any (W H T x:Int) (w:World) :
  Calls Tryz.prog 47 #[.agg #[.int .i64 W,.int .i64 H,.int .i64 T],.int .i64 x] w fun e w'=>e=.returned (pairV (nodeN W H T 2 x 0 0) (nodeE W H T 2 x 0 0))∧Below w.heap.size w w':=by
 go_enter Tryz.func47,Tryz.ntmps47
 go_wp2_with (go_at_call 67;refine (node_any W H T _ _ _ 2 _ (by omega)).mono ?_;rintro e w1 ⟨rfl,hb1⟩)
 go_ret2
 exact ⟨rfl,(br_.alloc (Nat.le_refl _) _).trans (hb1.mono (by simp))⟩
end Go.Proofs.YtmkiphadkmodnaaGreat
