/- BfM, 4 -/
import Derived.BigQuiet
import Derived.Deep.QuietTactic
import Derived.Deep.RegionHeld3
import Derived.Deep.DrawnRows
import Derived.Shelf.SlSortCmp.WholeK
import Derived.Lib.OwnBridge
import Derived.Deep.AppendLies
import Derived.Sort.LotA
import Derived.Test.YtmkiphadkmodnaaGreatZBfM0
import Derived.Test.YtmkiphadkmodnaaGreatZBfM2
import Derived.Test.YtmkiphadkmodnaaGreatZBfM3
set_option linter.all false
set_option maxRecDepth 100000
set_option maxHeartbeats 8000000
namespace Go.Proofs.YtmkiphadkmodnaaGreat
open Go.RowKit Go.Shelf Go.Lib Go.Sort
attribute [local go_sem ↓] Go.wp_at_zero Go.wp_at_succ
def cmpI (a b:Int):Int:=if a<b then -1 else if a > b then 1 else 0
def pcmp (x y:Int × Int):Int:=if cmpI x.1 y.1≠0 then cmpI x.1 y.1 else cmpI x.2 y.2
theorem isNaN_any (a:Int) (w:World):Calls Tryz.prog 105 #[.int .i64 a] w fun e w'=>e=.returned (.bool false)∧w=w':=by
 go_enter Tryz.func105,Tryz.ntmps105
 go_wp2
 go_ret
 exact ⟨by simp,rfl⟩
theorem compare_any (a b:Int) (w:World):Calls Tryz.prog 75 #[.int .i64 a,.int .i64 b] w fun e w'=>e=.returned (.int .i64 (cmpI a b))∧w=w':=by
 by_cases h1:a<b
 ·have e:cmpI a b=-1:=if_pos h1
  rw [e];clear e
  go_enter Tryz.func75,Tryz.ntmps75
  go_wp2_with (go_at_call 105;refine (isNaN_any _ _).mono ?_;rintro e w1 ⟨rfl,rfl⟩)
  go_ret
  exact ⟨rfl,rfl⟩
 ·by_cases h2:b<a
  ·have e:cmpI a b=1:=by unfold cmpI;rw [if_neg h1,if_pos h2]
   rw [e];clear e
   go_enter Tryz.func75,Tryz.ntmps75
   go_wp2_with (go_at_call 105;refine (isNaN_any _ _).mono ?_;rintro e w1 ⟨rfl,rfl⟩)
   go_ret
   exact ⟨rfl,rfl⟩
  ·have e:cmpI a b=0:=by unfold cmpI;rw [if_neg h1,if_neg (by omega)]
   rw [e];clear e
   go_enter Tryz.func75,Tryz.ntmps75
   go_wp2_with (go_at_call 105;refine (isNaN_any _ _).mono ?_;rintro e w1 ⟨rfl,rfl⟩)
   go_ret
   exact ⟨rfl,rfl⟩
def or2 (p q:Int):Int:=if p≠0 then p else q
theorem or_any (p q:Int) (g:Nat) (w:World) (h0:w.cell? ⟨g,0,none⟩=some (.int .i64 p)) (h1:w.cell? ⟨g,1,none⟩=some (.int .i64 q)) :
  Calls Tryz.prog 74 #[.slice (some ⟨g,0,none⟩) 2 2] w fun e w'=>e=.returned (.int .i64 (or2 p q))∧w=w':=by
 by_cases hp:p=0
 ·subst hp
  have e:or2 0 q=q:=rfl
  rw [e];clear e
  by_cases hq:q=0
  ·subst hq
   go_enter Tryz.func74,Tryz.ntmps74
   go_wp2
   go_loop [5,8] (fun _ i=>∃ k:Nat,k<=2∧i=.int .i64 (k:Int)) (fun _ i=>2-(intOf i).toNat)
   case atStart=>exact ⟨0,by omega,rfl⟩
   case round =>
    obtain ⟨k,hk,rfl⟩:=hrel
    have hk3:k=0∨k=1∨k=2:=by omega
    rcases hk3 with rfl|rfl|rfl
    ·go_wp2
     go_round
     case rel=>exact ⟨1,by omega,rfl⟩
     case measure=>simp [intOf]
    ·go_wp2
     go_round
     case rel=>exact ⟨2,by omega,rfl⟩
     case measure=>simp [intOf]
    ·go_wp2
     go_ret
     exact ⟨rfl,rfl⟩
  ·have hq':(q != 0)=true:=by simpa using hq
   clear hq
   go_enter Tryz.func74,Tryz.ntmps74
   go_wp2
   go_loop [5,8] (fun _ i=>∃ k:Nat,k<=1∧i=.int .i64 (k:Int)) (fun _ i=>2-(intOf i).toNat)
   case atStart=>exact ⟨0,by omega,rfl⟩
   case round =>
    obtain ⟨k,hk,rfl⟩:=hrel
    have hk3:k=0∨k=1:=by omega
    rcases hk3 with rfl|rfl
    ·go_wp2
     go_round
     case rel=>exact ⟨1,by omega,rfl⟩
     case measure=>simp [intOf]
    ·go_wp2
     go_ret
     exact ⟨rfl,rfl⟩
 ·have e:or2 p q=p:=if_pos hp
  rw [e];clear e
  have hp':(p != 0)=true:=by simpa using hp
  clear hp
  go_enter Tryz.func74,Tryz.ntmps74
  go_wp2
  go_loop [5,8] (fun _ i=>i=.int .i64 0) (fun _ i=>2-(intOf i).toNat)
  case atStart=>rfl
  case round =>
   subst hrel
   go_wp2
   go_ret
   exact ⟨rfl,rfl⟩
theorem pcmp_any (x y:Int × Int) (w:World):Calls Tryz.prog 73 #[.agg #[.int .i64 x.1,.int .i64 x.2],.agg #[.int .i64 y.1,.int .i64 y.2]] w fun e w'=>e=.returned (.int .i64 (pcmp x y))∧∃ q os',w'=grow (w.drewN q) os':=by
 obtain ⟨x1,x2⟩:=x
 obtain ⟨y1,y2⟩:=y
 have e:pcmp (x1,x2) (y1,y2)=or2 (cmpI x1 y1) (cmpI x2 y2):=rfl
 rw [e];clear e
 go_enter Tryz.func73,Tryz.ntmps73
 go_wp2
 go_region_held3 (fun w'=>w'.cell? ⟨w.heap.size,0,none⟩=some (.int .i64 x1)∧w'.cell? ⟨w.heap.size,1,none⟩=some (.int .i64 x2)∧w'.cell? ⟨w.heap.size+1,0,none⟩=some (.int .i64 y1)∧w'.cell? ⟨w.heap.size+1,1,none⟩=some (.int .i64 y2)) (go_keep) ((first|(go_at_call 75;refine (compare_any _ _ _).mono ?_;rintro e w1 ⟨rfl,rfl⟩)|(go_at_call 74;refine (or_any (cmpI x1 y1) (cmpI x2 y2) (w.heap.size+1+1) _ (by exact World.cell?_alloc_at _ _ _ _ (by simp)) (by exact World.cell?_alloc_at _ _ _ _ (by simp))).mono ?_;rintro e w1 ⟨rfl,rfl⟩)))
 all_goals go_wp2
 all_goals go_ret
 all_goals exact ⟨rfl,1,_,by rw [<- World.alloc_drew,<- World.alloc_drew,<- World.alloc_drew,alloc_eq_grow,alloc_eq_grow,alloc_eq_grow,grow_grow,grow_grow];rfl⟩
end Go.Proofs.YtmkiphadkmodnaaGreat
namespace Go.Proofs.YtmkiphadkmodnaaGreat
open Go.RowKit Go.Shelf Go.Lib Go.Sort
def encP (p:Int × Int):List Value:=[.int .i64 p.1,.int .i64 p.2]
theorem pc_get:∀ (xs:List (Int × Int)) (t:Nat),t<xs.length*2->(pc xs)[t]? = some ((encP xs[t/2]!)[t%2]!)
 | [],t,h=>by simp at h
 | x::xs,0,_=>by simp [pc,encP]
 | x::xs,1,_=>by simp [pc,encP]
 | x::xs,t+2,h=>by
  have e1:(t+2)/2=t/2+1:=by omega
  have e2:(t+2)%2=t%2:=by omega
  have h':t<xs.length*2:=by simp at h;omega
  have:=pc_get xs t h'
  rw [e1,e2]
  simpa [pc] using this
theorem pc_length (xs:List (Int × Int)):(pc xs).length=xs.length*2:=by
 induction xs with
 | nil=>rfl
 | cons x xs ih=>simp [pc] at ih ⊢;omega
theorem flat_pc (xs:List (Int × Int)):(flatK encP 2 xs.toArray).toList=pc xs:=by
 apply List.ext_getElem?
 intro t
 by_cases h:t<xs.length*2
 ·rw [pc_get xs t h]
  have hs:t<(flatK encP 2 xs.toArray).size:=by simpa using h
  rw [Array.getElem?_toList,Array.getElem?_eq_getElem hs]
  have:=get_flatK encP 2 xs.toArray t (by simpa using h)
  rw [getElem!_pos _ t hs] at this
  rw [this]
  simp
 ·have a:(flatK encP 2 xs.toArray).toList[t]? = none:=List.getElem?_eq_none (by simp;omega)
  have b:(pc xs)[t]? = none:=List.getElem?_eq_none (by rw [pc_length];omega)
  rw [a,b]
theorem holds_own {w:World} {base g n cap:Nat} {e:TypeId} {xs:List (Int × Int)} (h:w.ownsRow base e 2 (.slice (some ⟨g,0,none⟩) n cap) n (pc xs)):HoldsK encP 2 w g 0 xs.toArray:=by
 have hl:xs.length=n:=by have:=h.1;rw [pc_length] at this;omega
 rcases h.2 with ⟨e0,_⟩|⟨g',cap',cur,e0,hb,hg,hn,hm,hs,ht⟩
 ·cases e0
 ·injection e0 with e1 _ e3
  injection e1 with e1
  injection e1 with e1
  subst e1;subst e3
  intro j hj
  have hj':j<xs.length*2:=by simpa using hj
  refine ⟨?_,by simp [World.frozen?,hg]⟩
  have e1:(cur.toList.take (n*2))[j]? = (pc xs)[j]?:=by rw [ht]
  rw [List.getElem?_take,if_pos (by omega),Array.getElem?_toList,pc_get xs j hj'] at e1
  simp only [World.cell?,hg,Nat.zero_add]
  simp only [Option.isSome_none,Bool.false_eq_true,if_false]
  rw [e1,get_flatK encP 2 xs.toArray j (by simpa using hj')]
  simp
theorem own_sorted {w:World} {base g n cap q:Nat} {e:TypeId} {cells:List Value} {ys:Array Value} {os:Array Obj} (h:w.ownsRow base e 2 (.slice (some ⟨g,0,none⟩) n cap) n cells) (hy:ys.size=n*2) :
  (grow (putRow id (Sort.ahead w q) g 0 ys) os).ownsRow base e 2 (.slice (some ⟨g,0,none⟩) n cap) n ys.toList:=by
 rcases h.2 with ⟨e0,_⟩|⟨g',cap',cur,e0,hb,hg,hn,hm,hs,ht⟩
 ·cases e0
 ·injection e0 with e1 _ e3
  injection e1 with e1
  injection e1 with e1
  subst e1;subst e3
  have hlt:g<w.heap.size:=lt_of_block hg
  refine ⟨by simpa using hy,.inr ⟨g,cap,putCells id 0 ys cur,rfl,hb,?_,hn,hm,by simpa [putCells] using hs,?_⟩⟩
  ·show ((w.heap.modify g (onCells (putCells id 0 ys)))++os)[g]? = _
   rw [Array.getElem?_append_left (by simpa using hlt),Array.getElem?_modify]
   simp [hg,onCells]
  ·apply List.ext_getElem?
   intro j
   rw [List.getElem?_take,Array.getElem?_toList,Array.getElem?_toList]
   by_cases hj:j<n*2
   ·have hjc:j<cur.size:=by have:n*2<=cap*2:=Nat.mul_le_mul_right 2 hn;omega
    simp only [if_pos hj,putCells,Array.getElem?_mapIdx,Array.getElem?_eq_getElem hjc,Option.map_some]
    rw [if_pos (by simp;omega),Array.getElem?_eq_getElem (by omega)]
    simp [getElem!_pos,show j<ys.size by omega]
   ·simp [hj];omega
theorem blk_sorted {w:World} {g g' q:Nat} {t:TypeId} {cs ys:Array Value} {os:Array Obj} (h:Blk w g t cs) (hne:g≠g'):Blk (grow (putRow id (Sort.ahead w q) g' 0 ys) os) g t cs:=by
 have hlt:=h.lt
 unfold Blk at h ⊢
 show ((w.heap.modify g' (onCells (putCells id 0 ys)))++os)[g]? = _
 rw [Array.getElem?_append_left (by simpa using hlt),Array.getElem?_modify,if_neg (Ne.symm hne),h]
theorem below_sorted {B:Nat} {w0 w:World} {g q:Nat} {ys:Array Value} {os:Array Obj} (h:Below B w0 w) (hg:B<=g) (hB:B<=w.heap.size):Below B w0 (grow (putRow id (Sort.ahead w q) g 0 ys) os) :=
 ⟨h.os,h.tape,h.output,by have:=h.size;simp [grow,putRow,mapBlock,Sort.ahead];omega,fun k hk=>by
  rw [<- h.block k hk]
  show ((w.heap.modify g (onCells (putCells id 0 ys)))++os)[k]? = _
  rw [Array.getElem?_append_left (by simp;omega),Array.getElem?_modify,if_neg (by omega)]⟩
theorem pcmp_lt (x y:Int × Int):ltOf pcmp x y=decide (x.1<y.1∨x.1=y.1∧x.2<y.2):=by
 unfold ltOf pcmp cmpI
 rw [Bool.eq_iff_iff]
 simp only [decide_eq_true_eq]
 repeat' split
 all_goals omega
theorem pcmp_swo:SWO (ltOf pcmp) where
 irrefl x:=by rw [pcmp_lt];simp
 trans x y z h1 h2:=by rw [pcmp_lt] at *;simp at *;omega
 ntrans x y z h1 h2:=by rw [pcmp_lt] at *;simp at *;omega
theorem pcmp_total (x y:Int × Int) (h1:ltOf pcmp x y=false) (h2:ltOf pcmp y x=false):x=y:=by
 rw [pcmp_lt] at h1 h2
 simp at h1 h2
 exact Prod.ext (by omega) (by omega)
def sortP (xs:List (Int × Int)):List (Int × Int):=xs.mergeSort fun x y=>!(ltOf pcmp) y x
theorem sortP_length (xs:List (Int × Int)):(sortP xs).length=xs.length:=by simp [sortP]
theorem pcmpLays (blk off size:Nat) (w:World):CmpLays Tryz.prog 73 #[] encP 2 pcmp blk off size w :=
 fun _ _ _ _ x y=>pcmp_any x y _
theorem sort_any (w0 w:World) (B A J:Nat) (W H T:Int) (xs:List (Int × Int)) (hx:EW w0 w B A J W H T xs) (hne:0<xs.length) (hlen:xs.length<=100000000) (v:Value) (hv:Blk w B 57 #[v]) (hown:w.ownsRow w0.heap.size 103 2 v xs.length (pc xs)) :
  Calls Tryz.prog 72 #[v,.func (.func 73) #[] #[]] w fun e w'=>e=.returned (.tuple #[])∧Below w0.heap.size w0 w'∧Blk w' B 57 #[v]∧w'.ownsRow w0.heap.size 103 2 v xs.length (pc (sortP xs)):=by
 obtain ⟨g,cap,rfl,hbase,hlt⟩:=hown.form hne
 have eg:∀ args w,(callFunc 73 args).run Tryz.prog w=.ok (.enter 73 args) w:=enters_of Tryz.func73 (by kernel_rfl) rfl
 have hcon:=AnyQ.slices_SortFunc Tryz.sortPair 2 (fun _=>by kernel_rfl) (fun _=>by kernel_rfl) encP (fun _=>rfl) (fun x v hv=>by simp [encP] at hv;rcases hv with rfl|rfl <;> rfl) pcmp pcmp_swo 73 #[] g 0 cap xs.toArray w eg (pcmpLays g 0 _ w) (holds_own hown) hlt (by simp;omega)
 change Calls Tryz.prog 72 _ _ _ at hcon
 have hgB:B≠g:=by
  have:=own_other hown hv (by decide)
  simpa [Value.ownBlock,eq_comm] using this
 refine hcon.mono fun e w' ⟨he,d',n,os,hp,hs,hw⟩=>?_
 have hd:d'=(sortP xs).toArray:=Array.ext' (by simpa [sortP] using sorted_unique_holds pcmp_swo pcmp_total xs.toArray d' hp hs)
 subst hw
 subst hd
 refine ⟨he,?_,?_,?_⟩
 ·exact below_sorted hx.below hbase hx.below.size
 ·exact blk_sorted hv hgB
 ·rw [<- flat_pc]
  exact own_sorted hown (by simp [sortP_length])
end Go.Proofs.YtmkiphadkmodnaaGreat
namespace Go.Proofs.YtmkiphadkmodnaaGreat
theorem meetTo_mono (W H T n:Int) (c:Nat) (x y:Int):∀ k,(meetTo W H T n c x y 1).length<=(meetTo W H T n c x y (k+1)).length
 | 0=>Nat.le_refl _
 | k+1=>by
  have:=meetTo_mono W H T n c x y k
  rw [show meetTo W H T n c x y (k+1+1)=meetTo W H T n c x y (k+1)++_ from rfl,List.length_append]
  omega
theorem loop1_mono (W H T:Int):∀ k,(loop1 W H T 1).length<=(loop1 W H T (k+1)).length
 | 0=>Nat.le_refl _
 | k+1=>by
  have:=loop1_mono W H T k
  rw [show loop1 W H T (k+1+1)=loop1 W H T (k+1)++nodeL W H T ((k+1:Nat):Int) from rfl,List.length_append]
  omega
theorem rawL_pos {W H T:Int} (h:okA W H T):0<(rawL W H T).length:=by
 have hh:=h
 unfold okA at hh
 have hm:=gat_mono h
 have e0:gat W H T 0=0:=rfl
 have e1:gat W H T 1=gat W H T 0+W*H*1:=rfl
 have hp:0<W*H:=Int.mul_pos (by omega) (by omega)
 have hN:isN W H T 0:=⟨h,by omega,by unfold nodesI;omega⟩
 have hg:gk W H T 0=0:=gk_eq h (by omega) (by omega) (by simp only [Nat.zero_add];omega)
 obtain ⟨v1,v2,v3,-,-⟩:=wh_yes hN
 obtain ⟨-,hin,-⟩:=what_nodeAt hN
 rw [hg] at hin
 obtain ⟨⟨a1,a2⟩,⟨a3,a4⟩,-⟩:=hin
 simp only [gw,gh] at a2 a4
 have hin3:inG W H T 3 (wx W H T 0) (wy W H T 0) 0:=⟨⟨a1,by simpa [gw] using a2⟩,⟨a3,by simp only [gh];omega⟩,by omega,by simp only [gd];omega⟩
 have hm1:0<(meetTo W H T 0 3 (wx W H T 0) (wy W H T 0) 1).length:=by
  have:nodeE W H T 3 (wx W H T 0) (wy W H T 0) ((0:Nat):Int)=0:=by unfold nodeE;rw [if_pos ⟨h,by simpa using hin3⟩]
  simp only [meetTo,if_pos this]
  simp
 have hm2:0<(meetTo W H T 0 3 (wx W H T 0) (wy W H T 0) T.toNat).length:=by
  obtain ⟨t,ht⟩:∃ t,T.toNat=t+1:=⟨T.toNat-1,by omega⟩
  rw [ht]
  have:=meetTo_mono W H T 0 3 (wx W H T 0) (wy W H T 0) t
  omega
 have hn:0<(loop1 W H T 1).length:=by
  have e:loop1 W H T 1=[]++nodeL W H T ((0:Nat):Int):=rfl
  have hk:whK W H T ((0:Nat):Int)=1:=by rw [show ((0:Nat):Int)=0 from rfl,v1,hg];rfl
  rw [e,List.nil_append]
  unfold nodeL
  rw [if_pos hk,show ((0:Nat):Int)=0 from rfl,v2,v3]
  simp only [arTo,List.length_append,List.length_nil,arC,arX,arY]
  omega
 obtain ⟨k,hk⟩:∃ k,(nodesI W H T).toNat=k+1:=⟨(nodesI W H T).toNat-1,by unfold nodesI;omega⟩
 unfold rawL
 rw [hk,List.length_append]
 have:=loop1_mono W H T k
 omega
theorem rawL_len {W H T:Int} (h:okA W H T):(rawL W H T).length<=6000000:=by
 have hh:=h
 unfold okA at hh
 have a:=loop1_len (W:=W) (H:=H) (T:=T) hh.2.2.2 (nodesI W H T).toNat
 have b:=xTo_len (W:=W) (H:=H) (T:=T) hh.2.1.2 hh.2.2.2 (W+1).toNat
 have c:=nodes_bd h
 unfold rawL
 rw [List.length_append]
 omega
end Go.Proofs.YtmkiphadkmodnaaGreat
