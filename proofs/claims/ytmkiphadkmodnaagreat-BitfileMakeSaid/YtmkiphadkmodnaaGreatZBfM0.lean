/- BfM, 0 -/
import Derived.Test.YtmkiphadkmodnaaGreatRows
import Derived.WalkKit
import Derived.WalkSpells
import Derived.WalkLawsBesides
import Derived.Lib.Hide
import Derived.Deep.MidRow
import Derived.Laws.OwnMore
import Derived.Deep.AppendLies
import Derived.Deep.RegionHeld3
set_option linter.all false
set_option maxRecDepth 100000
set_option maxHeartbeats 8000000
namespace Go.Proofs.YtmkiphadkmodnaaGreat
open Go.RowKit
theorem bcell {W w1:World} (hb:Below W.heap.size W w1):(∀ b o,b<W.heap.size->w1.cell? ⟨b,o,none⟩=W.cell? ⟨b,o,none⟩)∧(∀ b o,b<W.heap.size->w1.frozen? ⟨b,o,none⟩=W.frozen? ⟨b,o,none⟩) :=
 ⟨fun b o h=>hb.cell (p:=⟨b,o,none⟩) h,fun b o h=>hb.frozen (p:=⟨b,o,none⟩) h⟩
theorem world_alloc_setCell (w:World) (cs:Array Value) (t:TypeId) (i:Nat) (v:Value) :
  (w.alloc (.cells cs t)).setCell ⟨w.heap.size,i,none⟩ v=w.alloc (.cells (cs.setIfInBounds i v) t) :=
 World.setCell_alloc_at cs t w.heap.size i v rfl
theorem setCells_new (w:World) (t:TypeId):∀ (cs zs pre:List Value),cs.length=zs.length ->
  (w.alloc (.cells (pre++zs).toArray t)).setCells w.heap.size pre.length cs=w.alloc (.cells (pre++cs).toArray t)
 | [],zs,pre,h=>by
  have:zs=[]:=List.eq_nil_of_length_eq_zero h.symm
  subst this
  rfl
 | c::cs,[],pre,h=>by simp at h
 | c::cs,z::zs,pre,h=>by
  rw [World.setCells,world_alloc_setCell]
  have e:((pre++z::zs).toArray.setIfInBounds pre.length c)=((pre++[c])++zs).toArray:=by
   apply Array.ext'
   simp
  rw [e]
  have:=setCells_new w t cs zs (pre++[c]) (by simpa using h)
  simpa using this
theorem results_tmp5 {fn:Func} {t u v x y:Tmp} (h:fn.results=#[.tmp t,.tmp u,.tmp v,.tmp x,.tmp y]) (tmps:Array Value) (P:Program) (w:World) :
  (results fn tmps).run P w=.ok (.tuple #[tmps.getD t undef,tmps.getD u undef,tmps.getD v undef,tmps.getD x undef,tmps.getD y undef]) w:=by simp [results,h]
theorem below_drewN {B:Nat} {a w:World} (h:Below B a w) (n:Nat):Below B a (w.drewN n):=⟨h.os,h.tape,h.output,h.size,h.block⟩
section
variable {P : Program}
theorem wpList_store_new {ops:Array Oper} {rest:List Oper} {op:Oper} {a:Act} {w:World} {Q:Exit->Act->World->Prop} (hgd:op.guard=none) (ty:TypeId) (x y:Operand) (ho:op.op=.store ty x y)
  (W:World) (zs cells:List Value) (t:TypeId) (hW:W=w.alloc (.cells zs.toArray t)) (n:Nat) (hx:a.eval x=.pointer (some ⟨n,0,none⟩)) (hn:n=w.heap.size) (hy:a.eval y=.agg cells.toArray)
  (hl:cells.length=zs.length) (hi:(P.info? ty).map (·.size)=some cells.length) (h1:cells.all (·.oneCell')=true)
  (h:wpList P ops Q rest (a.put op.dst undef) (w.alloc (.cells cells.toArray t))):wpList P ops Q (op::rest) a W:=by
 subst hW
 subst hn
 refine wpList_store_mid hgd ty x y ho w.heap.size 0 cells.toArray hx hy ?_ (by simpa using hi) (all_oneCell_toArray (List.all_eq_true.1 h1)) ?_
 ·intro j hj
  have hj':j<zs.length:=by simpa [hl] using hj
  rw [World.cell?_alloc_at _ _ _ _ rfl,World.frozen?_alloc_at _ _ _ _ rfl]
  simp [hj']
 ·have:=setCells_new w t cells zs [] hl
  simp only [List.nil_append,List.length_nil] at this
  rw [this]
  exact h
theorem wpList_build_to {ops:Array Oper} {rest:List Oper} {o:Oper} {a:Act} {w:World} {Q:Exit->Act->World->Prop} (hg:o.guard=none) (t:TypeId) (parts:Array (Nat × Operand)) (ho:o.op=.build t parts)
  (vals:List (Nat × Value)) (he:(parts.toList.map fun p=>(p.1,a.eval p.2))=vals) (cells:Array Value) (hf:P.built t vals=some cells)
  (h:wpList P ops Q rest (a.put o.dst (.agg cells)) w):wpList P ops Q (o::rest) a w:=by
 have he':(parts.map fun (i,x)=>(i,a.eval x)).toList=vals:=by rw [<- he];simp
 exact wpList_build hg t parts ho (by rw [he',hf];rfl) (by rw [he',hf];exact h)
end
end Go.Proofs.YtmkiphadkmodnaaGreat
namespace Go.Proofs.YtmkiphadkmodnaaGreat
open Go.RowKit
structure Box3 (w:World) (b:Nat) (x y z:Value):Prop where
 lt:b<w.heap.size
 c0:w.cell? ⟨b,0,none⟩=some x
 c1:w.cell? ⟨b,1,none⟩=some y
 c2:w.cell? ⟨b,2,none⟩=some z
theorem Box3.below {W w:World} {b:Nat} {x y z:Value} (h:Box3 W b x y z) (hb:Below W.heap.size W w):Box3 w b x y z :=
 ⟨Nat.lt_of_lt_of_le h.lt hb.size,(hb.cell (p:=⟨b,0,none⟩) h.lt).trans h.c0,(hb.cell (p:=⟨b,1,none⟩) h.lt).trans h.c1,(hb.cell (p:=⟨b,2,none⟩) h.lt).trans h.c2⟩
theorem Box3.new (w:World) (x y z:Value) (t:TypeId):Box3 (w.alloc (.cells #[x,y,z] t)) w.heap.size x y z :=
 ⟨by simp,World.cell?_alloc_at _ _ _ _ rfl,World.cell?_alloc_at _ _ _ _ rfl,World.cell?_alloc_at _ _ _ _ rfl⟩
theorem below_then {a w w':World} (h:Below a.heap.size a w) (k:Below w.heap.size w w'):Below a.heap.size a w':=h.trans (k.mono h.size)
theorem below_new (w:World) (o:Obj):Below w.heap.size w (w.alloc o):=(Below.refl _ _).alloc (Nat.le_refl _) _
end Go.Proofs.YtmkiphadkmodnaaGreat
namespace Go.Proofs.YtmkiphadkmodnaaGreat
open Go.RowKit
structure Rd (w:World) (size:Nat) (A:Option Addr) (n c:Nat) (xs:List Value):Prop where
 len:xs.length=n*size
 cap:n<=c
 nil:A=none->c=0
 read:∀ (j:Nat) (u:Value),xs[j]? = some u->∃ a,A=some a∧a.block<w.heap.size∧w.cell? (a.add j)=some u
theorem add_block (a:Addr) (n:Nat):(a.add n).block=a.block:=by unfold Addr.add;split <;> rfl
section
variable {w w' : World} {size n c : Nat} {A : Option Addr} {xs : List Value}
theorem Rd.later (h:Rd w size A n c xs) (hb:Below w.heap.size w w'):Rd w' size A n c xs :=
 ⟨h.len,h.cap,h.nil,fun j u hj=>by
  obtain ⟨a,e,hl,hc⟩:=h.read j u hj
  exact ⟨a,e,Nat.lt_of_lt_of_le hl hb.size,(hb.cell (p:=a.add j) (by rw [add_block];exact hl)).trans hc⟩⟩
theorem Rd.empty:Rd w size none 0 0 []:=⟨by simp,Nat.le_refl _,fun _=>rfl,fun j u h=>by simp at h⟩
theorem Rd.at1 (h:Rd w 1 A n c xs) {k:Nat} (hk:k<n):∃ a,A=some a∧a.block<w.heap.size∧w.cell? (a.add k)=some (xs.getD k undef):=by
 have hl:k<xs.length:=by have:=h.len;omega
 obtain ⟨a,e,hb,hc⟩:=h.read k xs[k] (List.getElem?_eq_getElem hl)
 exact ⟨a,e,hb,by rw [hc,List.getD_eq_getElem?_getD,List.getElem?_eq_getElem hl];rfl⟩
theorem Rd.of_own {base:Nat} {e:TypeId} (h:w.ownsRow base e size (.slice A n c) n xs):Rd w size A n c xs:=by
 refine ⟨h.1,?_,?_,?_⟩
 ·rcases h.2 with ⟨hv,hn⟩|⟨g,cap,cur,hv,hg,hh,hc,-⟩
  ·omega
  ·injection hv with _ _ hcc;omega
 ·intro hA
  subst hA
  rcases h.2 with ⟨hv,hn⟩|⟨g,cap,cur,hv,hg,hh,hc,-⟩
  ·injection hv
  ·injection hv with h1;cases h1
 ·intro j u hj
  rcases h.2 with ⟨hv,hn⟩|⟨g,cap,cur,hv,hg,hh,hc,-⟩
  ·have hl:=h.1
   have:xs=[]:=List.eq_nil_of_length_eq_zero (by rw [hl,hn];simp)
   subst this
   simp at hj
  ·injection hv with h1 h2 h3
   subst h1 h3
   exact ⟨_,rfl,lt_of_block hh,h.cells (g:=g) rfl j u hj⟩
end
def ints (l:List Int):List Value:=l.map (Value.int .i64)
def bools (l:List Bool):List Value:=l.map Value.bool
theorem ints_length (l:List Int):(ints l).length=l.length:=by simp [ints]
theorem bools_length (l:List Bool):(bools l).length=l.length:=by simp [bools]
theorem ints_append (l m:List Int):ints (l++m)=ints l++ints m:=by simp [ints]
theorem ints_getD (l:List Int) {k:Nat} (h:k<l.length):(ints l).getD k undef=.int .i64 (l.getD k 0):=by
 simp [ints,List.getD_eq_getElem?_getD,List.getElem?_eq_getElem h]
theorem bools_getD (l:List Bool) {k:Nat} (h:k<l.length):(bools l).getD k undef=.bool (l.getD k false):=by
 simp [bools,List.getD_eq_getElem?_getD,List.getElem?_eq_getElem h]
theorem Rd.int {w:World} {A:Option Addr} {n c:Nat} {l:List Int} (h:Rd w 1 A n c (ints l)) {k:Nat} (hk:k<n):∃ a,A=some a∧a.block<w.heap.size∧w.cell? (a.add k)=some (.int .i64 (l.getD k 0)):=by
 obtain ⟨a,e,hb,hc⟩:=h.at1 hk
 exact ⟨a,e,hb,by rw [hc,ints_getD l (by have:=h.len;rw [ints_length] at this;omega)]⟩
theorem Rd.bool {w:World} {A:Option Addr} {n c:Nat} {l:List Bool} (h:Rd w 1 A n c (bools l)) {k:Nat} (hk:k<n):∃ a,A=some a∧a.block<w.heap.size∧w.cell? (a.add k)=some (.bool (l.getD k false)):=by
 obtain ⟨a,e,hb,hc⟩:=h.at1 hk
 exact ⟨a,e,hb,by rw [hc,bools_getD l (by have:=h.len;rw [bools_length] at this;omega)]⟩
end Go.Proofs.YtmkiphadkmodnaaGreat
namespace Go.Proofs.YtmkiphadkmodnaaGreat
open Go.RowKit
theorem tk_ {P:Program} {ops:Array Oper} {Q:Exit->Act->World->Prop} {md:Region.Mode} {S:World->Prop} (i:Nat) (oi:Oper) {v:Value} {fuel:Nat} {listed:Array Bool} {a:Act} {w:World}
  (hy:∀ w,S w->(execOp a.eval oi).run P w=.ok (.value v) w) (h:wpAnyH P md ops Q S fuel (listed.setIfInBounds i true) (a.put oi.dst v) w)
  (hi:ops[i]? = some oi:=by rfl) (hs:Region.noSelect ops=true:=by kernel_rfl) (hf:Region.free md ops listed i=true:=by kernel_rfl) (hr:(Region.ready md ops listed).contains i=true:=by kernel_rfl)
  (hQ:∀ c a w,Q (.panic c) (a.put oi.dst v) w->Q (.panic c) a w:=by exact fun _ _ _ h=>h) (hw:Region.wanted oi (yielded ops a.tmps)=true:=by rfl) (hS:S w:=by assumption) :
  wpAnyH P md ops Q S (fuel+1) listed a w:=wpAnyH_take hi hs hf hr hQ (Or.inl ⟨hw,hy⟩) hS h
theorem la_ {α:Type} (l:List α) (i:Nat) (x:α):l.toArray.setIfInBounds i x=(l.set i x).toArray:=by simp
theorem lz_ {α:Type} (a x:α) (l:List α):(a::l).set 0 x=x::l:=rfl
theorem ls_ {α:Type} (a x:α) (l:List α) (n:Nat):(a::l).set (n+1) x=a::l.set n x:=rfl
theorem rd_ {P:Program} {ops:Array Oper} {Q:Exit->Act->World->Prop} {md:Region.Mode} {S:World->Prop} {fuel:Nat} {listed:Array Bool} {a:Act} {w:World} (rs:List Nat) (h:AllReadyH P md ops Q S fuel listed a w rs)
  (hr:Region.ready md ops listed=rs:=by kernel_rfl) (hne:rs≠[]:=by simp):wpAnyH P md ops Q S (fuel+1) listed a w:=wpAnyH_ready hr hne h
theorem br_ {w:World} {B:Nat}:Below B w w:=Below.refl B w
theorem bn_ (w:World) (o:Obj):Below w.heap.size w (w.alloc o):=below_new w o
theorem bd_ {w:World} {B:Nat}:Below B w (w.drewN 1):=below_drewN (Below.refl B w) 1
theorem hd_ {p:Prop} (h:p):Hid p:=Lib.hid h
theorem bt_ {a b c:World} (h:Below a.heap.size a b) (k:Below b.heap.size b c):Below a.heap.size a c:=below_then h k
theorem stage1 {a0:Type} {T:Prop} {M:a0->Prop} {G:a0->Prop} (main:(∀ x0,M x0->G x0)->T) (pf:∀ x0,M x0->G x0):T:=main pf
theorem stage2 {a0 a1:Type} {T:Prop} {M:a0->a1->Prop} {G:a0->a1->Prop} (main:(∀ x0 x1,M x0 x1->G x0 x1)->T) (pf:∀ x0 x1,M x0 x1->G x0 x1):T:=main pf
theorem stage3 {a0 a1 a2:Type} {T:Prop} {M:a0->a1->a2->Prop} {G:a0->a1->a2->Prop} (main:(∀ x0 x1 x2,M x0 x1 x2->G x0 x1 x2)->T) (pf:∀ x0 x1 x2,M x0 x1 x2->G x0 x1 x2):T:=main pf
theorem stage4 {a0 a1 a2 a3:Type} {T:Prop} {M:a0->a1->a2->a3->Prop} {G:a0->a1->a2->a3->Prop} (main:(∀ x0 x1 x2 x3,M x0 x1 x2 x3->G x0 x1 x2 x3)->T) (pf:∀ x0 x1 x2 x3,M x0 x1 x2 x3->G x0 x1 x2 x3):T:=main pf
theorem stage5 {a0 a1 a2 a3 a4:Type} {T:Prop} {M:a0->a1->a2->a3->a4->Prop} {G:a0->a1->a2->a3->a4->Prop} (main:(∀ x0 x1 x2 x3 x4,M x0 x1 x2 x3 x4->G x0 x1 x2 x3 x4)->T) (pf:∀ x0 x1 x2 x3 x4,M x0 x1 x2 x3 x4->G x0 x1 x2 x3 x4):T:=main pf
theorem stage6 {a0 a1 a2 a3 a4 a5:Type} {T:Prop} {M:a0->a1->a2->a3->a4->a5->Prop} {G:a0->a1->a2->a3->a4->a5->Prop} (main:(∀ x0 x1 x2 x3 x4 x5,M x0 x1 x2 x3 x4 x5->G x0 x1 x2 x3 x4 x5)->T) (pf:∀ x0 x1 x2 x3 x4 x5,M x0 x1 x2 x3 x4 x5->G x0 x1 x2 x3 x4 x5):T:=main pf
theorem stage7 {a0 a1 a2 a3 a4 a5 a6:Type} {T:Prop} {M:a0->a1->a2->a3->a4->a5->a6->Prop} {G:a0->a1->a2->a3->a4->a5->a6->Prop} (main:(∀ x0 x1 x2 x3 x4 x5 x6,M x0 x1 x2 x3 x4 x5 x6->G x0 x1 x2 x3 x4 x5 x6)->T) (pf:∀ x0 x1 x2 x3 x4 x5 x6,M x0 x1 x2 x3 x4 x5 x6->G x0 x1 x2 x3 x4 x5 x6):T:=main pf
theorem stage8 {a0 a1 a2 a3 a4 a5 a6 a7:Type} {T:Prop} {M:a0->a1->a2->a3->a4->a5->a6->a7->Prop} {G:a0->a1->a2->a3->a4->a5->a6->a7->Prop} (main:(∀ x0 x1 x2 x3 x4 x5 x6 x7,M x0 x1 x2 x3 x4 x5 x6 x7->G x0 x1 x2 x3 x4 x5 x6 x7)->T) (pf:∀ x0 x1 x2 x3 x4 x5 x6 x7,M x0 x1 x2 x3 x4 x5 x6 x7->G x0 x1 x2 x3 x4 x5 x6 x7):T:=main pf
end Go.Proofs.YtmkiphadkmodnaaGreat
namespace Go.Proofs.YtmkiphadkmodnaaGreat
open Go.RowKit
abbrev pairV (a b:Int):Value:=.tuple #[.int .i64 a,.int .i64 b]
abbrev whatV (a b c d e:Int):Value:=.tuple #[.int .i64 a,.int .i64 b,.int .i64 c,.int .i64 d,.int .i64 e]
def gw (W H:Int):Nat->Int
 | 0=>W
 | 1=>W
 | 2=>2*W+2*H
 | 3=>W
 | _=>W+1
def gh (H:Int):Nat->Int
 | 0=>H
 | 1=>H
 | 2=>1
 | 3=>H+1
 | _=>H
def gd (T:Int):Nat->Int
 | 0=>1
 | 1=>4
 | 2=>1
 | _=>T
def gmany (W H T:Int) (k:Nat):Int:=gw W H k*gh H k*gd T k
def gat (W H T:Int):Nat->Int
 | 0=>0
 | k+1=>gat W H T k+gmany W H T k
def nodesI (W H T:Int):Int:=gat W H T 5
def okA (W H T:Int):Prop:=(1<=W∧W<=16)∧(1<=H∧H<=16)∧(1<=T∧T<=16)
instance (W H T:Int):Decidable (okA W H T):=by unfold okA;infer_instance
theorem mul_bd {a b A B:Int} (ha:0<=a) (ha':a<=A) (hb:0<=b) (hb':b<=B):0<=a*b∧a*b<=A*B :=
 ⟨Int.mul_nonneg ha hb,Int.mul_le_mul ha' hb' hb (by omega)⟩
theorem lt5 {k:Nat} (h:k<5):k=0∨k=1∨k=2∨k=3∨k=4:=by omega
theorem g_bd {W H T:Int} (h:okA W H T) {k:Nat} (hk:k<5):(1<=gw W H k∧gw W H k<=64)∧(1<=gh H k∧gh H k<=17)∧(1<=gd T k∧gd T k<=16):=by
 unfold okA at h
 rcases lt5 hk with rfl|rfl|rfl|rfl|rfl <;> simp only [gw,gh,gd] <;> omega
theorem g_bd2 {W H T:Int} (h:okA W H T) {k:Nat} (hk:k<5):(0<=gw W H k*gh H k∧gw W H k*gh H k<=1088)∧(0<=gw W H k*gh H k*gd T k∧gw W H k*gh H k*gd T k<=17408):=by
 obtain ⟨h1,h2,h3⟩:=g_bd h hk
 have a:=mul_bd (by omega) h1.2 (by omega:0<=gh H k) h2.2
 have b:=mul_bd a.1 a.2 (by omega:0<=gd T k) h3.2
 omega
theorem gat_bd {W H T:Int} (h:okA W H T):∀ {k:Nat},k<=5->0<=gat W H T k∧gat W H T k<=17408*k
 | 0,_=>by simp [gat]
 | k+1,hk=>by
  have a:=gat_bd h (k:=k) (by omega)
  have b:=g_bd2 h (k:=k) (by omega)
  simp only [gat,gmany]
  omega
theorem nodes_bd {W H T:Int} (h:okA W H T):0<=nodesI W H T∧nodesI W H T<=87040:=by
 have:=gat_bd h (k:=5) (by omega)
 unfold nodesI
 omega
def gk (W H T n:Int):Nat:=if n<gat W H T 1 then 0 else if n<gat W H T 2 then 1 else if n<gat W H T 3 then 2 else if n<gat W H T 4 then 3 else 4
def wq (W H T n:Int):Int:=n-gat W H T (gk W H T n)
def wx (W H T n:Int):Int:=wq W H T n/gd T (gk W H T n)%gw W H (gk W H T n)
def wy (W H T n:Int):Int:=wq W H T n/gd T (gk W H T n)/gw W H (gk W H T n)
def wt (W H T n:Int):Int:=wq W H T n%gd T (gk W H T n)
theorem gat_mono {W H T:Int} (h:okA W H T):gat W H T 0<=gat W H T 1∧gat W H T 1<=gat W H T 2∧gat W H T 2<=gat W H T 3∧gat W H T 3<=gat W H T 4∧gat W H T 4<=gat W H T 5:=by
 have h0:=g_bd2 h (k:=0) (by omega)
 have h1:=g_bd2 h (k:=1) (by omega)
 have h2:=g_bd2 h (k:=2) (by omega)
 have h3:=g_bd2 h (k:=3) (by omega)
 have h4:=g_bd2 h (k:=4) (by omega)
 simp only [gat,gmany]
 omega
theorem gk_eq {W H T n:Int} (h:okA W H T) {k:Nat} (hk:k<5) (h1:gat W H T k<=n) (h2:n<gat W H T (k+1)):gk W H T n=k:=by
 have hm:=gat_mono h
 unfold gk
 rcases lt5 hk with rfl|rfl|rfl|rfl|rfl
 ·rw [if_pos (by omega)]
 ·rw [if_neg (by omega),if_pos (by omega)]
 ·rw [if_neg (by omega),if_neg (by omega),if_pos (by omega)]
 ·rw [if_neg (by omega),if_neg (by omega),if_neg (by omega),if_pos (by omega)]
 ·rw [if_neg (by omega),if_neg (by omega),if_neg (by omega),if_neg (by omega)]
theorem gk_in {W H T n:Int} (h0:0<=n) (hm:n<nodesI W H T):gat W H T (gk W H T n)<=n∧n<gat W H T (gk W H T n+1)∧gk W H T n<5:=by
 unfold gk
 have e0:gat W H T 0=0:=rfl
 unfold nodesI at hm
 repeat' split
 all_goals simp only [Nat.reduceAdd]
 all_goals omega
def inG (W H T:Int) (k:Nat) (x y t:Int):Prop:=(0<=x∧x<gw W H k)∧(0<=y∧y<gh H k)∧(0<=t∧t<gd T k)
instance (W H T:Int) (k:Nat) (x y t:Int):Decidable (inG W H T k x y t):=by unfold inG;infer_instance
def nodeAt (W H T:Int) (k:Nat) (x y t:Int):Int:=gat W H T k+(y*gw W H k+x)*gd T k+t
theorem row_lt {x y a b:Int} (hx:0<=x) (hx':x<a) (hy:0<=y) (hy':y<b):0<=y*a+x∧y*a+x<a*b:=by
 have h1:0<=y*a:=Int.mul_nonneg hy (by omega)
 have h2:(y+1)*a<=b*a:=Int.mul_le_mul_of_nonneg_right (by omega) (by omega)
 rw [Int.add_mul,Int.one_mul] at h2
 rw [Int.mul_comm b a] at h2
 omega
theorem nodeAt_in {W H T:Int} {k:Nat} {x y t:Int} (h:inG W H T k x y t):gat W H T k<=nodeAt W H T k x y t∧nodeAt W H T k x y t<gat W H T (k+1):=by
 obtain ⟨⟨h1,h2⟩,⟨h3,h4⟩,h5,h6⟩:=h
 have a:=row_lt h1 h2 h3 h4
 have b:=row_lt h5 h6 a.1 a.2
 simp only [nodeAt,gat,gmany]
 rw [Int.mul_comm (gd T k)] at b
 omega
def chkE (W H T:Int):Int:=if okA W H T then 0 else 1
def nodesO (W H T:Int):Int:=if okA W H T then nodesI W H T else 0
def padsO (W H T:Int):Int:=if okA W H T then 2*W+2*H else 0
def nodeN (W H T:Int) (k:Nat) (x y t:Int):Int:=if okA W H T∧inG W H T k x y t then nodeAt W H T k x y t else 0
def nodeE (W H T:Int) (k:Nat) (x y t:Int):Int:=if okA W H T∧inG W H T k x y t then 0 else 1
def isN (W H T n:Int):Prop:=okA W H T∧0<=n∧n<nodesI W H T
instance (W H T n:Int):Decidable (isN W H T n):=by unfold isN;infer_instance
def whK (W H T n:Int):Int:=if isN W H T n then (gk W H T n:Int)+1 else 0
def whX (W H T n:Int):Int:=if isN W H T n then wx W H T n else 0
def whY (W H T n:Int):Int:=if isN W H T n then wy W H T n else 0
def whT (W H T n:Int):Int:=if isN W H T n then wt W H T n else 0
def whE (W H T n:Int):Int:=if isN W H T n then 0 else 1
end Go.Proofs.YtmkiphadkmodnaaGreat
namespace Go.Proofs.YtmkiphadkmodnaaGreat
theorem nodeAt_what {W H T:Int} (h:okA W H T) {k:Nat} (hk:k<5) {x y t:Int} (hg:inG W H T k x y t) :
  isN W H T (nodeAt W H T k x y t)∧gk W H T (nodeAt W H T k x y t)=k∧wx W H T (nodeAt W H T k x y t)=x∧wy W H T (nodeAt W H T k x y t)=y∧wt W H T (nodeAt W H T k x y t)=t:=by
 obtain ⟨a1,a2⟩:=nodeAt_in hg
 have hgk:=gk_eq h hk a1 a2
 have hm:=gat_mono h
 have b1:=gat_bd h (k:=k) (by omega)
 have hlast:gat W H T (k+1)<=gat W H T 5:=by
  rcases lt5 hk with rfl|rfl|rfl|rfl|rfl <;> simp only [Nat.reduceAdd] <;> omega
 have hb:=g_bd h hk
 obtain ⟨⟨h1,h2⟩,⟨h3,h4⟩,h5,h6⟩:=hg
 have hq:wq W H T (nodeAt W H T k x y t)=t+(y*gw W H k+x)*gd T k:=by
  unfold wq;rw [hgk];unfold nodeAt;omega
 have e1:(t+(y*gw W H k+x)*gd T k)/gd T k=y*gw W H k+x:=by
  rw [Int.add_mul_ediv_right _ _ (by omega),Int.ediv_eq_zero_of_lt h5 h6];omega
 have e2:(t+(y*gw W H k+x)*gd T k)%gd T k=t:=by
  rw [Int.add_mul_emod_self_right,Int.emod_eq_of_lt h5 h6]
 have e3:(y*gw W H k+x)/gw W H k=y:=by
  rw [Int.add_comm,Int.add_mul_ediv_right _ _ (by omega),Int.ediv_eq_zero_of_lt h1 h2];omega
 have e4:(y*gw W H k+x)%gw W H k=x:=by
  rw [Int.add_comm,Int.add_mul_emod_self_right,Int.emod_eq_of_lt h1 h2]
 refine ⟨⟨h,by omega,by unfold nodesI;omega⟩,hgk,?_,?_,?_⟩
 ·simp only [wx,hgk,hq,e1,e4]
 ·simp only [wy,hgk,hq,e1,e3]
 ·simp only [wt,hgk,hq,e2]
theorem what_nodeAt {W H T n:Int} (h:isN W H T n) :
  gk W H T n<5∧inG W H T (gk W H T n) (wx W H T n) (wy W H T n) (wt W H T n)∧nodeAt W H T (gk W H T n) (wx W H T n) (wy W H T n) (wt W H T n)=n:=by
 obtain ⟨ho,h0,hm⟩:=h
 obtain ⟨a1,a2,hk⟩:=gk_in h0 hm
 have hb:=g_bd ho hk
 have hq0:0<=wq W H T n:=by unfold wq;omega
 have hq1:wq W H T n<gw W H (gk W H T n)*gh H (gk W H T n)*gd T (gk W H T n):=by
  have:gat W H T (gk W H T n+1)=gat W H T (gk W H T n)+gw W H (gk W H T n)*gh H (gk W H T n)*gd T (gk W H T n):=rfl
  unfold wq;omega
 have d1:0<=wq W H T n/gd T (gk W H T n):=Int.ediv_nonneg hq0 (by omega)
 have d2:wq W H T n/gd T (gk W H T n)<gh H (gk W H T n)*gw W H (gk W H T n):=Int.ediv_lt_of_lt_mul (by omega) (by rw [Int.mul_comm (gh H _)];exact hq1)
 refine ⟨hk,⟨⟨?_,?_⟩,⟨?_,?_⟩,?_,?_⟩,?_⟩
 ·exact Int.emod_nonneg _ (by omega)
 ·exact Int.emod_lt_of_pos _ (by omega)
 ·exact Int.ediv_nonneg d1 (by omega)
 ·exact Int.ediv_lt_of_lt_mul (by omega) d2
 ·exact Int.emod_nonneg _ (by omega)
 ·exact Int.emod_lt_of_pos _ (by omega)
 ·have e1:wy W H T n*gw W H (gk W H T n)+wx W H T n=wq W H T n/gd T (gk W H T n):=by
   unfold wy wx;rw [Int.mul_comm];exact Int.mul_ediv_add_emod _ _
  have e2:wq W H T n/gd T (gk W H T n)*gd T (gk W H T n)+wt W H T n=wq W H T n:=by
   unfold wt;rw [Int.mul_comm];exact Int.mul_ediv_add_emod _ _
  unfold nodeAt
  rw [e1]
  have e3:wq W H T n=n-gat W H T (gk W H T n):=rfl
  omega
theorem wh_yes {W H T n:Int} (h:isN W H T n):whK W H T n=(gk W H T n:Int)+1∧whX W H T n=wx W H T n∧whY W H T n=wy W H T n∧whT W H T n=wt W H T n∧whE W H T n=0:=by
 simp only [whK,whX,whY,whT,whE,if_pos h,and_self]
end Go.Proofs.YtmkiphadkmodnaaGreat
