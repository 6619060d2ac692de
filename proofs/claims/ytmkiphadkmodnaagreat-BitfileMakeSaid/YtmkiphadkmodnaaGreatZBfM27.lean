/- BfM, 27 -/
import Derived.Deep.LoopGhost
import Derived.Test.YtmkiphadkmodnaaGreatZBfM0
import Derived.Test.YtmkiphadkmodnaaGreatZBfM6
import Derived.Test.YtmkiphadkmodnaaGreatZBfM8
import Derived.Test.YtmkiphadkmodnaaGreatZBfM11
set_option linter.all false
set_option maxRecDepth 100000
set_option maxHeartbeats 8000000
namespace Go.Proofs.YtmkiphadkmodnaaGreat
def Down (S:List Nat):Prop:=∀ i,i<S.length->S.getD i 0<=i
theorem getD_setN (l:List Nat) (i j:Nat) (h:i<l.length) (b:Nat):(l.set i b).getD j 0=if i=j then b else l.getD j 0:=by
 simp only [List.getD_eq_getElem?_getD,List.getElem?_set]
 by_cases e:i=j
 ·subst e;simp [h]
 ·simp [e]
theorem Down.set {S:List Nat} (hd:Down S) {n v:Nat} (hn:n<S.length) (hv:v<=n):Down (S.set n v):=by
 intro i hi
 rw [getD_setN S n i hn]
 split
 ·omega
 ·exact hd i (by simpa using hi)
def joinR (f:Nat->Nat) (x y:Nat):Nat->Nat:=fun i=>if f i=max (f x) (f y) then min (f x) (f y) else f i
structure Ends (f:Nat->Nat):Prop where
 le:∀ i,f i<=i
 same:∀ i,f (f i)=f i
theorem Ends.start:Ends fun i=>i:=⟨fun i=>Nat.le_refl _,fun i=>rfl⟩
theorem Ends.join {f:Nat->Nat} (h:Ends f) (x y:Nat):Ends (joinR f x y):=by
 have key:∀ i,joinR f x y i=f i∨(f i=max (f x) (f y)∧joinR f x y i=min (f x) (f y)):=fun i=>by
  unfold joinR;split
  ·exact .inr ⟨by assumption,rfl⟩
  ·exact .inl rfl
 have hmin:f (min (f x) (f y))=min (f x) (f y):=by
  rcases Nat.le_total (f x) (f y) with e|e
  ·rw [Nat.min_eq_left e];exact h.same x
  ·rw [Nat.min_eq_right e];exact h.same y
 constructor
 ·intro i
  have:=h.le i
  rcases key i with e|⟨e1,e2⟩
  ·omega
  ·omega
 ·intro i
  have hstay:joinR f x y (min (f x) (f y))=min (f x) (f y):=by
   unfold joinR
   rw [hmin]
   split
   ·rfl
   ·rfl
  rcases key i with e|⟨e1,e2⟩
  ·rw [e]
   unfold joinR at e ⊢
   rw [h.same i]
   exact e
  ·rw [e2];exact hstay
end Go.Proofs.YtmkiphadkmodnaaGreat
namespace Go.Proofs.YtmkiphadkmodnaaGreat
open Go.RowKit
def nats (S:List Nat):List Value:=S.map fun (n:Nat)=>Value.int .i64 (n:Int)
theorem nats_length (S:List Nat):(nats S).length=S.length:=by simp [nats]
theorem nats_get (S:List Nat) {k:Nat} (h:k<S.length):(nats S)[k]? = some (.int .i64 (S.getD k 0:Int)):=by
 simp [nats,List.getD_eq_getElem?_getD,List.getElem?_eq_getElem h]
theorem nats_set (S:List Nat) (k n:Nat):(nats S).set k (.int .i64 (n:Int))=nats (S.set k n):=by simp [nats,List.map_set]
structure Sets (w:World) (g N:Nat) (S:List Nat):Prop where
 row:w.ownsRow g 3 1 (.slice (some ⟨g,0,none⟩) N N) N (nats S)
 down:Down S
section
variable {w w' : World} {g N : Nat} {S : List Nat}
theorem Sets.len (h:Sets w g N S):S.length=N:=by have:=h.row.1;rw [nats_length] at this;omega
theorem Sets.cell (h:Sets w g N S) {k:Nat} (hk:k<N):w.cell? ⟨g,k,none⟩=some (.int .i64 (S.getD k 0:Int)) :=
 (h.row.cellAt k (by omega)).trans (nats_get S (by rw [h.len];exact hk))
theorem Sets.free (h:Sets w g N S) (k:Nat):w.frozen? ⟨g,k,none⟩=false:=h.row.frozenAt k
theorem Sets.store (h:Sets w g N S) {k v:Nat} (hk:k<N) (hv:v<=k):Sets (w.setCell ⟨g,k,none⟩ (.int .i64 (v:Int))) g N (S.set k v)∧w.grownBy (w.setCell ⟨g,k,none⟩ (.int .i64 (v:Int))) (some g):=by
 obtain ⟨h1,h2⟩:=h.row.stored k (.int .i64 (v:Int))
 rw [nats_set] at h1
 exact ⟨⟨h1,h.down.set (by rw [h.len];exact hk) hv⟩,h2⟩
theorem Sets.glt (h:Sets w g N S):g<w.heap.size:=(h.row.lt g rfl).2
end
theorem grown_on {a b c:World} {r:Option Nat} (h:a.grownBy b r) (k:b.grownBy c r):a.grownBy c r :=
 ⟨k.os.trans h.os,k.tape.trans h.tape,k.output.trans h.output,Nat.le_trans h.size k.size,fun i hi hn=>(k.block i (Nat.lt_of_lt_of_le hi h.size) hn).trans (h.block i hi hn)⟩
end Go.Proofs.YtmkiphadkmodnaaGreat
namespace Go.Proofs.YtmkiphadkmodnaaGreat
open Go.RowKit
structure JW (w0 wx:World) (C:Cfg) (AA:Option Addr) (L:List (Int × Int)) (c base g N:Nat) (S:List Nat):Prop where
 below:Below w0.heap.size w0 wx
 box:Box7 wx w0.heap.size C
 edges:wx.ownsRow base 103 2 (.slice AA L.length c) L.length (pc L)
 sets:Sets wx g N S
 hg:w0.heap.size<g
 hd:(Value.slice AA L.length c).ownBlock≠some g
section
variable {w0 wx wy : World} {C : Cfg} {AA : Option Addr} {L : List (Int × Int)} {c base g N : Nat} {S S' : List Nat}
theorem JW.keep (h:JW w0 wx C AA L c base g N S) (hb:Below wx.heap.size wx wy):JW w0 wy C AA L c base g N S :=
 ⟨bt_ h.below hb,h.box.below hb,own_keep h.edges hb,⟨own_keep h.sets.row hb,h.sets.down⟩,h.hg,h.hd⟩
theorem own_kept {w w':World} {base:Nat} {e:TypeId} {size n g:Nat} {v:Value} {xs:List Value} (h:w.ownsRow base e size v n xs) (hg:w.grownBy w' (some g)) (hd:v.ownBlock≠some g):w'.ownsRow base e size v n xs :=
 h.kept hg (.inr hd)
theorem JW.turned (h:JW w0 wx C AA L c base g N S) (hs:Sets wy g N S') (hg:wx.grownBy wy (some g)):JW w0 wy C AA L c base g N S':=by
 have hx:=h.box
 have hgn:=h.hg
 have hc:∀ j:Nat,wy.cell? ⟨w0.heap.size,j,none⟩=wx.cell? ⟨w0.heap.size,j,none⟩:=fun j =>
  World.cell?_of_block (w:=wx) (hg.block w0.heap.size hx.lt (fun e=>by injection e;omega))
 exact ⟨h.below.grown hg h.below.size (fun k hk=>by injection hk;omega),⟨Nat.lt_of_lt_of_le hx.lt hg.size,(hc 0).trans hx.c0,(hc 1).trans hx.c1,(hc 2).trans hx.c2,(hc 3).trans hx.c3,(hc 4).trans hx.c4,(hc 5).trans hx.c5,(hc 6).trans hx.c6⟩,
  own_kept h.edges hg h.hd,hs,h.hg,h.hd⟩
end
end Go.Proofs.YtmkiphadkmodnaaGreat
