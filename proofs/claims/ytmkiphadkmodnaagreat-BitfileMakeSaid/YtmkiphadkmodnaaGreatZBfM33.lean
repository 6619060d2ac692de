/- BfM, 33 -/
import Derived.OneCell
import Derived.Laws.OwnMore
import Derived.Laws.Rows
import Derived.Laws.MakeOwn
import Derived.Laws.AppendOwnNone
import Derived.Laws.ResultCell
import Derived.BigQuiet
import Derived.BigRegion
import Derived.Deep.QuietTactic
import Derived.Deep.RegionHeld3
import Derived.Deep.RegionWith
import Derived.Deep.Slices
import Derived.IntWalk
import Derived.Maps.AppendAt
import Derived.OwnWalkIn
import Derived.WalkKit
import Derived.Maps.Own
import Derived.Maps.OwnSet
import Derived.Maps.OwnOps
import Derived.Maps.Views
import Derived.Test.YtmkiphadkmodnaaGreatZBfM30
import Derived.Test.YtmkiphadkmodnaaGreatZBfM0
import Derived.Deep.DeepCutAuto
set_option linter.all false
set_option maxRecDepth 100000
set_option maxHeartbeats 8000000
namespace Go.Proofs.YtmkiphadkmodnaaGreat
open Go.RowKit Go.Maps
theorem Chg.refl (w:World) (X:Nat->Prop):Chg w w X:=⟨rfl,rfl,rfl,Nat.le_refl _,fun _ _ _=>rfl⟩
theorem Chg.mono' {w w':World} {X Y:Nat->Prop} (h:Chg w w' X) (hx:∀ k,X k->Y k):Chg w w' Y:=⟨h.os,h.tape,h.output,h.size,fun k hk hy=>h.block k hk fun hX=>hy (hx k hX)⟩
theorem Chg.of_below {w w':World} (h:Below w.heap.size w w') (X:Nat->Prop):Chg w w' X:=⟨h.os,h.tape,h.output,h.size,fun k hk _=>h.block k hk⟩
theorem Chg.setSame {w wx:World} {g i:Nat} (h:Chg w wx fun k=>k=g) (v:Value):Chg w (wx.setCell ⟨g,i,none⟩ v) fun k=>k=g :=
 (h.trans (Chg.set wx g i v)).mono' fun k hk=>hk.elim id id
theorem Chg.belowB {w wx wy:World} {X:Nat->Prop} (h:Chg w wx X) (hb:Below wx.heap.size wx wy):Chg w wy X:=(h.trans (Chg.of_below hb X)).mono' (by simp)
theorem Chg.grownHi {w wx u:World} {X:Nat->Prop} {row:Option Nat} (h:Chg w wx X) (hg:wx.grownBy u row) (hr:∀ k,row=some k->w.heap.size<=k):Chg w u X:=by
 have h2:=h.trans (Chg.of_grown hg)
 refine ⟨h2.os,h2.tape,h2.output,h2.size,fun k hk hx=>h2.block k hk (fun ho=>?_)⟩
 rcases ho with ho|ho
 ·exact hx ho
 ·have:=hr k ho.symm;omega
theorem Chg.cellAt {w w':World} {X:Nat->Prop} (h:Chg w w' X) {p:Addr} (hp:p.block<w.heap.size) (hx:¬ X p.block):w'.cell? p=w.cell? p:=World.cell?_of_block (w:=w) (h.block p.block hp hx)
theorem Rd.chg {w w':World} {X:Nat->Prop} {size n c:Nat} {A:Option Addr} {xs:List Value} (h:Rd w size A n c xs) (hc:Chg w w' X) (hx:∀ g,blkOf A=some g->¬ X g):Rd w' size A n c xs:=by
 refine ⟨h.len,h.cap,h.nil,fun j u hj=>?_⟩
 obtain ⟨a,rfl,hb,hr⟩:=h.read j u hj
 refine ⟨a,rfl,Nat.lt_of_lt_of_le hb hc.size,?_⟩
 rw [<- hr]
 have hh:=hc.block a.block hb (hx _ rfl)
 rw [<- add_block a j] at hh
 simp only [World.cell?,hh]
theorem app_run (ts te ty:TypeId) (hts:Tryz.prog.underlying ts=some (.slice te)) (z:Value) (sz bytes:Nat) (hinfo:(Tryz.prog.info? te).map (fun i=>(i.zero,i.size,i.bytes))=some (some z,sz,bytes)) (hzs:z.cells.size=sz) (hsz:0<sz) (hby:bytes<=100000)
  {W:World} (base:Nat) (A:Option Addr) (k c:Nat) (L:List Value) (O:W.ownsRow base te sz (.slice A k c) k L)
  (ad:Addr) (d:Nat) (M:List Value) (hr:Rd W sz (some ad) 1 d M) (h1:∀ u ∈ M,u.oneCell'=true) (hk:k+1<=100000000) (hb:base<=W.heap.size) :
  ∃ A' c' w',(Builtin.append_ #[ts,ts] ty #[.slice A k c,.slice (some ad) 1 d]).run Tryz.prog W=.ok (.slice A' (k+1) c') w'∧w'.ownsRow base te sz (.slice A' (k+1) c') (k+1) (L++M)∧W.grownBy w' (blkOf A)∧(blkOf A'=blkOf A∨blkOf A'=some W.heap.size):=by
 obtain ⟨i0,hi0,hz0,hz1,hz2⟩:=info_parts hinfo
 obtain ⟨v',w',hrun,h2,h3,-,h5⟩:=run_append_own_at (P:=Tryz.prog) W base ts ty te i0 z sz bytes hts hi0 hz0 hz1 hz2 hzs hsz (.slice A k c) k L O ad 1 d M hr.len (fun j u hj=>by
  obtain ⟨a',e,-,hc⟩:=hr.read j u hj
  obtain rfl:=Option.some.inj e
  exact hc) h1 (by unfold maxLen;omega) (by have:=Nat.mul_le_mul hk hby;omega) hb
 obtain ⟨A',c',rfl⟩:=own_slice h2
 rw [own_blk] at h3 h5
 rw [own_blk] at h5
 exact ⟨A',c',w',hrun,h2,h3,h5⟩
theorem own_down {w:World} {base base':Nat} {e:TypeId} {size n:Nat} {v:Value} {xs:List Value} (h:w.ownsRow base e size v n xs) (hb:base'<=base):w.ownsRow base' e size v n xs:=by
 refine ⟨h.1,?_⟩
 rcases h.2 with h2|⟨g,cap,cur,hv,hg,hh⟩
 ·exact .inl h2
 ·exact .inr ⟨g,cap,cur,hv,Nat.le_trans hb hg,hh⟩
theorem blk_made1 (w:World) (o:Obj) (t:TypeId) (cs:Array Value):Blk ((w.alloc o).alloc (.cells cs t)) (w.heap.size+1) t cs:=by
 have h:=Blk.made (w.alloc o) t cs
 rw [World.size_alloc] at h
 exact h
theorem rd_of_blk {w:World} {g:Nat} {t:TypeId} {cs:List Value} (h:Blk w g t cs.toArray) (sz n:Nat) (hn:cs.length=n*sz):Rd w sz (some ⟨g,0,none⟩) n n cs:=by
 refine ⟨hn,Nat.le_refl _,fun e=>(by cases e),fun j u hj=>⟨⟨g,0,none⟩,rfl,h.lt,?_⟩⟩
 have:=h.cell j
 rw [Addr.add_lit]
 simpa using this.trans (by simpa using hj)
theorem blk_of_own {w:World} {g:Nat} {t:TypeId} {cs:List Value} {n base:Nat} (h:w.ownsRow base t 1 (.slice (some ⟨g,0,none⟩) n n) n cs):Blk w g t cs.toArray:=by
 obtain ⟨h1,h2⟩:=h
 rcases h2 with ⟨h3,-⟩|⟨g',cap,cur,he,hb,hg,h4,h5,h6,h7⟩
 ·cases h3
 ·injection he with e1 e2 e3
  injection e1 with e1
  injection e1 with e1
  subst e1 e3
  have:cur.toList=cs:=by rw [<- h7,List.take_of_length_le (by simp;omega)]
  show w.heap[g]? = _
  rw [hg,<- this]
theorem wpList_make_part {P:Program} (w:World) {ops:Array Oper} {rest:List Oper} {o:Oper} {a:Act} {Q:Exit->Act->World->Prop}
  (hg:o.guard=none) (l c:Operand) (t:TypeId) (hop:o.op=Op.makeSlice t l c) (e:TypeId) (i:TypeInfo) (z:Value) (h1:P.underlying t=some (.slice e)) (h2:P.info? e=some i) (h3:i.zero=some z) (h4:i.size=1) (hz:z.cells=#[z])
  (kl kc:IntKind) (L C:Int) (n m:Nat) (hl:a.eval l=.int kl L) (hc:a.eval c=.int kc C) (hL:L=(n:Int)) (hC:C=(m:Int)) (hnm:n<=m) (b2:i.bytes*m<=281474976710656) (b3:m<=100000000)
  (hK:∀ w',w'.ownsRow w.heap.size e 1 (.slice (some ⟨w.heap.size,0,none⟩) n m) n (List.replicate n z)->Below w.heap.size w w'->wpList P ops Q rest (a.put o.dst (.slice (some ⟨w.heap.size,0,none⟩) n m)) w') :
  wpList P ops Q (o::rest) a w:=by
 refine wpList_plain hg fun K hK'=>?_
 subst hL
 subst hC
 have hrun:=run_make (P:=P) w t e i z h1 h2 h3 kl kc (n:Int) (m:Int) (by omega) (by omega) (by rw [<- Int.natCast_mul];omega) (by omega)
 unfold Oper.wp
 simp [execOp,hop,hl,hc,hrun,Result.andThen,h4,hz]
 refine hK' _ _ (hK _ ?_ (bn_ w _))
 rw [made_eq]
 refine ⟨by simp,.inr ⟨w.heap.size,m,(List.replicate m z).toArray,rfl,Nat.le_refl _,heap_alloc_new w _,hnm,by unfold maxLen;omega,by simp,?_⟩⟩
 simp [Nat.min_eq_left hnm]
section
variable {ops : Array Oper} {rest : List Oper} {o : Oper} {a : Act} {Q : Exit → Act → World → Prop}
theorem wpList_app_at (hgd:o.guard=none) (s x:Operand) (ts te:TypeId) (ho:o.op=.call { callee:=.builtin .append,args:=#[s,x],argTypes:=#[ts,ts] })
  (hts:Tryz.prog.underlying ts=some (.slice te)) (z:Value) (sz bytes:Nat) (hinfo:(Tryz.prog.info? te).map (fun i=>(i.zero,i.size,i.bytes))=some (some z,sz,bytes)) (hzs:z.cells.size=sz) (hsz:0<sz) (hby:bytes<=100000)
  {W:World} (base:Nat) (A:Option Addr) (k c:Nat) (L:List Value) (hs:a.eval s=.slice A k c) (O:W.ownsRow base te sz (.slice A k c) k L)
  (ad:Addr) (d:Nat) (M:List Value) (hx:a.eval x=.slice (some ad) 1 d) (hr:Rd W sz (some ad) 1 d M) (h1:∀ u ∈ M,u.oneCell'=true) (hk:k+1<=100000000) (hb:base<=W.heap.size)
  (h:∀ A' c' w',w'.ownsRow base te sz (.slice A' (k+1) c') (k+1) (L++M)->W.grownBy w' (blkOf A)->(blkOf A'=blkOf A∨blkOf A'=some W.heap.size)->wpList Tryz.prog ops Q rest (a.put o.dst (.slice A' (k+1) c')) w') :
  wpList Tryz.prog ops Q (o::rest) a W:=by
 refine wpList_plain hgd fun K hK=>?_
 obtain ⟨A',c',w',hr',h2,h3,h4⟩:=app_run ts te o.type hts z sz bytes hinfo hzs hsz hby base A k c L O ad d M hr h1 hk hb
 unfold Oper.wp execOp
 simp only [ho,resolve,invoke,builtin,Sem.run_bind,Sem.run_pure,Result.andThen_ok,List.map_toArray,List.map_cons,List.map_nil,hs,hx,hr']
 exact hK _ _ (h A' c' w' h2 h3 h4)
end
abbrev BitsB (w:World) (b:Nat) (nd:List Bool):Prop:=Blk w b 4 (bools nd).toArray
theorem BitsB.at_ {w:World} {b:Nat} {nd:List Bool} (h:BitsB w b nd) {a:Nat} (ha:a<nd.length):w.cell? ⟨b,a,none⟩=some (.bool (nd.getD a false)):=by
 rw [h.cell a]
 simp [bools,List.getD_eq_getElem?_getD,List.getElem?_eq_getElem ha]
theorem BitsB.set {w:World} {b:Nat} {nd:List Bool} (h:BitsB w b nd) (a:Nat) (y:Bool):BitsB (w.setCell ⟨b,a,none⟩ (.bool y)) b (nd.set a y):=by
 have h':=h.put a (.bool y)
 rw [List.setIfInBounds_toArray,show (bools nd).set a (.bool y)=bools (nd.set a y) by simp [bools,List.map_set]] at h'
 exact h'
theorem bool_infoA:(Tryz.prog.info? 4).map (fun i=>(i.zero,i.size,i.bytes))=some (some (.bool false),1,1):=by kernel_rfl
theorem bool_cells (b:Bool):(Value.bool b).cells=#[.bool b]:=rfl
theorem ints_put (l:List Int) (i:Nat) (x:Int):(ints l).set i (.int .i64 x)=ints (l.set i x):=by simp [ints,List.map_set]
theorem key_int:Keyed Tryz.prog 3:=int_keyed Tryz.underlying3
def updI {α:Type} (M:Int->Option α) (n:Int) (v:α):Int->Option α:=fun m=>if m=n then some v else M m
structure HoldsV {α:Type} (lit:α->Lit) (D:DataW Unit) (M:Int->Option α):Prop where
 map:IsMap D
 has:∀ n:Int,Maps.has D (.int .i64 n)=(M n).isSome
 at_:∀ (n:Int) (v:α),M n=some v->∀ z,D.atKey (.int .i64 n) z=.lit (lit v)
theorem HoldsV.start {α:Type} (lit:α->Lit):HoldsV lit (.map []) (fun _=>none):=⟨isMap_empty,fun n=>rfl,fun n v h=>by cases h⟩
theorem key_litI (n:Int):WideAt.IsKeyLit (Lit.int .i64 n):=trivial
theorem HoldsV.put {α:Type} {lit:α->Lit} {D:DataW Unit} {M:Int->Option α} (h:HoldsV lit D M) (n:Int) (v:α):HoldsV lit (D.put (.int .i64 n) (.lit (lit v))) (updI M n v):=by
 refine ⟨h.map.put _ _,fun m=>?_,fun m u hm z=>?_⟩
 ·unfold updI
  by_cases e:m=n
  ·subst e;rw [has_put_same h.map (key_litI _),if_pos rfl];rfl
  ·rw [has_put_other (fun hx=>e (by simpa using hx)),if_neg e];exact h.has m
 ·unfold updI at hm
  by_cases e:m=n
  ·subst e;rw [if_pos rfl] at hm;cases hm;exact atKey_put_same h.map (key_litI _) _ _
  ·rw [if_neg e] at hm
   rw [atKey_put_other (fun hx=>e (by simpa using hx))]
   exact h.at_ m u hm z
def MapV {α:Type} (lit:α->Lit) (e:TypeId) (w:World) (B cap:Nat) (M:Int->Option α):Prop:=∃ D:DataW Unit,w.ownsMap Tryz.prog 3 (plainElem (H:=Unit) Tryz.prog e) B cap D∧HoldsV lit D M
section
variable {α : Type} {lit : α → Lit} {e : TypeId} {w w' : World} {B cap : Nat} {M : Int → Option α}
theorem MapV.lt (h:MapV lit e w B cap M):B<w.heap.size:=let ⟨_,h,_⟩:=h;h.lt
theorem MapV.keep (h:MapV lit e w B cap M) (hb:w'.heap[B]? = w.heap[B]?):MapV lit e w' B cap M:=by
 obtain ⟨D,⟨es,clock,h1,h2⟩,hD⟩:=h
 exact ⟨D,⟨es,clock,hb.trans h1,h2⟩,hD⟩
theorem MapV.below (h:MapV lit e w B cap M) (hb:Below w.heap.size w w'):MapV lit e w' B cap M:=h.keep (hb.block B h.lt)
theorem MapV.made (w:World):MapV lit e (w.alloc (.map #[] 0)) w.heap.size 0 (fun _=>none):=⟨_,World.ownsMap_made _ _ _ _,HoldsV.start lit⟩
theorem MapV.blk (h:MapV lit e w B cap M) {g:Nat} {t:TypeId} {cs:Array Value} (hb:Blk w g t cs):g≠B:=by
 rintro rfl
 obtain ⟨_,⟨es,clock,h1,_⟩,_⟩:=h
 unfold Blk at hb
 rw [h1] at hb
 cases hb
theorem MapV.own (hm:MapV lit e w B cap M) {base:Nat} {t:TypeId} {size n:Nat} {v:Value} {xs:List Value} (h:w.ownsRow base t size v n xs):v.ownBlock≠some B:=by
 intro e'
 obtain ⟨_,⟨es,clock,h1,_⟩,_⟩:=hm
 obtain ⟨-,h2⟩:=h
 rcases h2 with h2|⟨g,c,cur,rfl,hg,hh,-⟩
 ·rw [h2.1] at e';cases e'
 ·have e2:g=B:=Option.some.inj e'
  subst e2
  rw [h1] at hh
  cases hh
end
theorem keyI {n:Int} (h:-9223372036854775808<=n∧n<=9223372036854775807):keyOf Tryz.prog 3 (.int .i64 n)=some (.int .i64 n):=keyOf_int_mk Tryz.underlying3 (WalkArith.wf_i64 (by omega))
theorem zero_bool (w:World):(zeroValue 4).run Tryz.prog w=.ok (.bool false) w:=by kernel_rfl
abbrev MapB (w:World) (B cap:Nat) (M:Int->Option Bool):Prop:=MapV Lit.bool 4 w B cap M
theorem plain_bool_inv {v:Value} {z:DataW Unit × List MemPlace} (h:plainElem Tryz.prog 4 v=some z):∃ x:Bool,v=.bool x∧z=(.lit (.bool x),[]):=by
 cases v with
 | bool x=>exact ⟨x,rfl,by rw [plainElem_bool Tryz.underlying4 x] at h;exact (Option.some.inj h).symm⟩
 | _=>simp [plainElem,Tryz.underlying4] at h
theorem MapB.get {w:World} {B cap:Nat} {M:Int->Option Bool} (h:MapB w B cap M) {n:Int} (hn:-9223372036854775808<=n∧n<=9223372036854775807):(Instr.lookup 137 (.map (some B)) (.int .i64 n) false).run Tryz.prog w=.ok (.bool ((M n).getD false)) w:=by
 obtain ⟨D,hown,hD⟩:=h
 obtain ⟨v,ps,hrun,hv⟩:=hown.lookup key_int Tryz.underlying137 (zero_bool w) (plainElem_bool Tryz.underlying4 false) (keyI hn)
 obtain ⟨x,rfl,hx⟩:=plain_bool_inv hv
 rw [hrun]
 have hx1:=congrArg Prod.fst hx
 simp only at hx1
 cases hM:M n with
 | none =>
  have hh:=hD.has n
  rw [hM] at hh
  rw [atKey_of_not_has hh] at hx1
  simp at hx1
  simp [hx1]
 | some y =>
  rw [hD.at_ n y hM] at hx1
  simp at hx1
  simp [hx1]
theorem MapB.update {w:World} {B cap:Nat} {M:Int->Option Bool} (h:MapB w B cap M) (hc:cap<maxLen) (n:Int) (v:Bool) (hn:-9223372036854775808<=n∧n<=9223372036854775807) :
  ∃ w',(Instr.mapUpdate 137 (.map (some B)) (.int .i64 n) (.bool v)).run Tryz.prog w=.ok () w'∧MapB w' B (cap+1) (updI M n v)∧w.grownBy w' (some B):=by
 obtain ⟨D,hown,hD⟩:=h
 obtain ⟨w',h1,h2,h3⟩:=hown.update key_int Tryz.underlying137 hc (keyI hn) (plainElem_bool Tryz.underlying4 v)
 exact ⟨w',h1,⟨_,h2,hD.put n v⟩,h3⟩
theorem zero_int (w:World):(zeroValue 3).run Tryz.prog w=.ok (.int .i64 0) w:=by kernel_rfl
abbrev MapN (w:World) (B cap:Nat) (M:Int->Option Int):Prop:=MapV (Lit.int .i64) 3 w B cap M
theorem MapN.get {w:World} {B cap:Nat} {M:Int->Option Int} (h:MapN w B cap M) {n:Int} (hn:-9223372036854775808<=n∧n<=9223372036854775807):(Instr.lookup 101 (.map (some B)) (.int .i64 n) true).run Tryz.prog w=.ok (.tuple #[.int .i64 ((M n).getD 0),.bool (M n).isSome]) w:=by
 obtain ⟨D,hown,hD⟩:=h
 obtain ⟨v,ps,hrun,hv⟩:=hown.look_ok key_int Tryz.underlying101 (zero_int w) (plainElem_int Tryz.underlying3 (by decide)) (keyI hn)
 obtain ⟨c,rfl,hc,hwc⟩:=plainElem_int_inv Tryz.underlying3 hv
 rw [hrun]
 have hx1:=congrArg Prod.fst hc
 simp only at hx1
 have hh:=hD.has n
 rw [hh]
 cases hM:M n with
 | none =>
  rw [hM] at hh
  rw [atKey_of_not_has hh] at hx1
  simp at hx1
  simp [hx1]
 | some y =>
  rw [hD.at_ n y hM] at hx1
  simp at hx1
  simp [hx1]
theorem MapN.update {w:World} {B cap:Nat} {M:Int->Option Int} (h:MapN w B cap M) (hc:cap<maxLen) (n v:Int) (hn:-9223372036854775808<=n∧n<=9223372036854775807) (hv:-9223372036854775808<=v∧v<=9223372036854775807) :
  ∃ w',(Instr.mapUpdate 101 (.map (some B)) (.int .i64 n) (.int .i64 v)).run Tryz.prog w=.ok () w'∧MapN w' B (cap+1) (updI M n v)∧w.grownBy w' (some B):=by
 obtain ⟨D,hown,hD⟩:=h
 obtain ⟨w',h1,h2,h3⟩:=hown.update key_int Tryz.underlying101 hc (keyI hn) (plainElem_int Tryz.underlying3 (WalkArith.wf_i64 (by omega)))
 exact ⟨w',h1,⟨_,h2,hD.put n v⟩,h3⟩
end Go.Proofs.YtmkiphadkmodnaaGreat
namespace Go.Proofs.YtmkiphadkmodnaaGreat
open Go.RowKit
theorem wp_region_still_in {P:Program} {id:Nat} {Q:Exit->Act->World->Prop} {a:Act} {w:World} {l:List Oper} (hm:P.follows .mixedOrders=true) (hB:Region.lexB .any l.toArray=true)
  (h:∀ (β:Type) (_:Nonempty β) (V:β->World),(∀ s,Below w.heap.size w (V s))->(∀ w',Below w.heap.size w w'->∃ s,w'=V s) ->
   wpQuiet P l.toArray (fun w'=>∃ s,w'=V s) (fun a'=>∀ w',(∃ s,w'=V s)->Q .normal a' w') l a):(Code.region id l.toArray true).wp P Q a w :=
 wp_region_quiet (C:=fun w'=>∃ s:{ x:World // Below w.heap.size w x },w'=s.val) hm hB ⟨⟨_,bd_⟩,rfl⟩
  (by simpa using h { x:World // Below w.heap.size w x } ⟨⟨w,br_⟩⟩ (fun s=>s.val) (fun s=>s.property) (fun w' hw=>⟨⟨w',hw⟩,rfl⟩))
theorem still_cell {w:World} {β:Type} {V:β->World} (hV:∀ s,Below w.heap.size w (V s)) {p:Addr} {v:Value} (h:w.cell? p=some v):∀ s,(V s).cell? p=some v:=fun s =>
 ((hV s).cell (World.block_lt_of_cell? w p h)).trans h
theorem Calls.still {P:Program} {f:FuncId} {args:Array Value} {w:World} {β:Type} {V:β->World} (hV:∀ s,Below w.heap.size w (V s)) (hS:∀ w',Below w.heap.size w w'->∃ s,w'=V s) {s:β} {v:Value}
  (h:Calls P f args (V s) fun e w'=>e=.returned v∧Below (V s).heap.size (V s) w'):Calls P f args (V s) fun e w''=>e=.returned v∧∃ s,w''=V s :=
 h.mono fun _ _ ⟨he,hb⟩=>⟨he,hS _ (bt_ (hV s) hb)⟩
theorem Calls.still_same {P:Program} {f:FuncId} {args:Array Value} {w:World} {β:Type} {V:β->World} (hS:∀ w',Below w.heap.size w w'->∃ s,w'=V s) {s:β} {v:Value}
  (h:Calls P f args (V s) fun e w'=>e=.returned v∧V s=w'):Calls P f args (V s) fun e w''=>e=.returned v∧∃ s,w''=V s :=
 h.mono fun _ _ ⟨he,hb⟩=>⟨he,s,hb.symm⟩
end Go.Proofs.YtmkiphadkmodnaaGreat
namespace Go.Proofs.YtmkiphadkmodnaaGreat
open Go.RowKit Go.Maps
def dbl (k t:Nat):Nat->Nat
 | 0=>t
 | j+1=>dbl k t j ||| (dbl k t j <<< 2 ^ (k+j))
def rpt (k t:Nat):Nat->Nat
 | 0=>0
 | i+1=>rpt k t i+(t/2 ^ (i%2 ^ k)%2)*2 ^ i
theorem rpt_lt (k t:Nat):∀ i,rpt k t i<2 ^ i
 | 0=>by simp [rpt]
 | i+1=>by
  have h:=rpt_lt k t i
  have h2:(t/2 ^ (i%2 ^ k)%2)*2 ^ i<=1*2 ^ i:=Nat.mul_le_mul_right _ (by omega)
  rw [rpt,Nat.pow_succ]
  omega
theorem dbl_lt (k t:Nat) (ht:t<2 ^ 2 ^ k):∀ j,dbl k t j<2 ^ 2 ^ (k+j)
 | 0=>ht
 | j+1=>by
  have h:=dbl_lt k t ht j
  have hp:2 ^ (k+(j+1))=2 ^ (k+j)+2 ^ (k+j):=by rw [<- Nat.add_assoc,Nat.pow_succ 2 (k+j),Nat.mul_two]
  rw [dbl,hp]
  generalize 2 ^ (k+j)=m at h ⊢
  generalize dbl k t j=d at h ⊢
  refine Nat.or_lt_two_pow (Nat.lt_of_lt_of_le h (Nat.pow_le_pow_right (by omega) (by omega))) ?_
  rw [Nat.shiftLeft_eq,Nat.pow_add]
  exact Nat.mul_lt_mul_of_pos_right h (Nat.two_pow_pos _)
theorem rpt_all (t:Nat):∀ i,i<=16->rpt 4 t i=t%2 ^ i
 | 0,_=>by simp [rpt,Nat.mod_one]
 | i+1,h=>by
  rw [rpt,rpt_all t i (by omega),show i%2 ^ 4=i by omega,Nat.mod_pow_succ,Nat.mul_comm]
theorem dbl_rpt0:∀ t,t<2->dbl 0 t 4=rpt 0 t 16:=by decide +kernel
theorem dbl_rpt1:∀ t,t<4->dbl 1 t 3=rpt 1 t 16:=by decide +kernel
theorem dbl_rpt2:∀ t,t<16->dbl 2 t 2=rpt 2 t 16:=by decide +kernel
theorem dbl_rpt3:∀ t,t<256->dbl 3 t 1=rpt 3 t 16:=by decide +kernel
theorem dbl_rpt {k t:Nat} (hk:k<=4) (ht:t<2 ^ 2 ^ k):dbl k t (4-k)=rpt k t 16:=by
 obtain rfl|rfl|rfl|rfl|rfl:k=0∨k=1∨k=2∨k=3∨k=4:=by omega
 ·exact dbl_rpt0 t ht
 ·exact dbl_rpt1 t ht
 ·exact dbl_rpt2 t ht
 ·exact dbl_rpt3 t ht
 ·rw [rpt_all t 16 (Nat.le_refl _)]
  exact (Nat.mod_eq_of_lt ht).symm
def sprd (b:BL):Nat:=rpt b.l.length b.t.toNat 16
theorem spread_any (b:BL) (w:World) (hl:b.l.length<=4) (ht:0<=b.t∧b.t<2 ^ 2 ^ b.l.length) :
  Calls Tryz.prog 22 #[.agg #[.slice b.A b.l.length b.c,.int .i64 b.t,.bool b.ff,.bool b.it]] w fun e w'=>e=.returned (.int .i64 (sprd b:Int))∧Below w.heap.size w w':=by
 obtain ⟨tn,htn⟩:∃ tn:Nat,b.t=(tn:Int):=⟨b.t.toNat,by omega⟩
 obtain ⟨k,hk⟩:∃ k,b.l.length=k:=⟨_,rfl⟩
 have htk:tn<2 ^ 2 ^ k:=by rw [<- hk];have h:=ht.2;rw [htn] at h;exact_mod_cast h
 have HR:=hd_ (show sprd b=dbl k tn (4-k) by unfold sprd;rw [hk,htn,Int.toNat_natCast,dbl_rpt (by omega) htk])
 have HL:=hd_ (fun j=>dbl_lt k tn htk j)
 generalize sprd b=y at HR
 rw [hk,htn]
 have hk4:k<=4:=by omega
 clear ht
 have B1:=hd_ (bn_ w (.cells #[.slice b.A k b.c,.int .i64 (tn:Int),.bool b.ff,.bool b.it] 62))
 have X1:=hd_ (Blk.made w 62 #[.slice b.A k b.c,.int .i64 (tn:Int),.bool b.ff,.bool b.it])
 go_enter Tryz.func22,Tryz.ntmps22
 go_upto_region 1 with (fail)
 generalize w.alloc (.cells #[.slice b.A k b.c,.int .i64 (tn:Int),.bool b.ff,.bool b.it] 62)=w1 at B1 X1 ⊢
 have x0:=X1.out.cell 0
 have x1:=X1.out.cell 1
 go_wp2_with fail
 go_loop [4,3] (fun v4 v3=>∃ j:Nat,k+j<=4∧v4=.int .i64 ((2 ^ (k+j):Nat):Int)∧v3=.int .i64 (dbl k tn j:Int)) (fun v4 _=>16-(intOf v4).toNat)
 case atStart=>exact ⟨0,by omega,by rw [shl_nat k (by omega)];rfl,rfl⟩
 case round =>
  obtain ⟨j,hj,rfl,rfl⟩:=hrel
  have hd:=HL.out j
  by_cases hkj:k+j<4
  ·have HN:=hd_ (show dbl k tn (j+1)=dbl k tn j ||| (dbl k tn j <<< 2 ^ (k+j)) from rfl)
   have HP:=hd_ (show 2 ^ (k+(j+1))=2 ^ (k+j)*2 from by rw [<- Nat.add_assoc,Nat.pow_succ])
   have hm:2 ^ (k+j)<=8:=by
    have:=Nat.pow_le_pow_right (n:=2) (by omega) (show k+j<=3 by omega)
    omega
   have hm1:0<2 ^ (k+j):=Nat.two_pow_pos _
   have hd8:dbl k tn j<256:=Nat.lt_of_lt_of_le hd (by have:=Nat.pow_le_pow_right (n:=2) (by omega) hm;omega)
   generalize 2 ^ (k+j)=m at hm hm1 HN HP ⊢
   generalize dbl k tn j=d at HN hd8 ⊢
   have hlt:(m:Int)<16:=by omega
   clear hd
   go_wp2_with fail
   have hs:wrap64 ((d:Int)*2 ^ m)=((d <<< m:Nat):Int):=by
    rw [Nat.shiftLeft_eq]
    have h1:2 ^ m<=256:=by have:=Nat.pow_le_pow_right (n:=2) (by omega) hm;omega
    have h2:d*2 ^ m<65536:=by
     have:=Nat.mul_le_mul (show d<=255 by omega) h1
     omega
    have h3:(d:Int)*2 ^ m=((d*2 ^ m:Nat):Int):=by push_cast;rfl
    rw [h3]
    generalize d*2 ^ m=u at h2
    unfold wrap64;omega
   have ho:bits .or .i64 (d:Int) ((d <<< m:Nat):Int)=((d ||| (d <<< m):Nat):Int):=i64_or_nat d (d <<< m) (by omega) (by
    rw [Nat.shiftLeft_eq]
    have h1:2 ^ m<=256:=by have:=Nat.pow_le_pow_right (n:=2) (by omega) hm;omega
    have:=Nat.mul_le_mul (show d<=255 by omega) h1
    omega)
   go_round
   case rel=>exact ⟨j+1,by omega,by rw [HP.out];push_cast;rfl,by rw [hs,ho,HN.out]⟩
   case measure=>simp [intOf];omega
  ·have h4:k+j=4:=by omega
   obtain rfl:j=4-k:=by omega
   have h16:2 ^ (k+(4-k))=16:=by rw [h4]
   rw [h16]
   go_wp2_with fail
   go_ret
   exact ⟨by rw [HR.out];rfl,B1.out⟩
theorem rspread_any (b:BL) (w:World) (hl:b.l.length<=4) (ht:0<=b.t∧b.t<2 ^ 2 ^ b.l.length) :
  Calls Tryz.prog 27 #[.agg #[.slice b.A b.l.length b.c,.int .i64 b.t,.bool b.ff,.bool b.it]] w fun e w'=>e=.returned (.int .i64 (sprd b:Int))∧Below w.heap.size w w':=by
 obtain ⟨tn,htn⟩:∃ tn:Nat,b.t=(tn:Int):=⟨b.t.toNat,by omega⟩
 obtain ⟨k,hk⟩:∃ k,b.l.length=k:=⟨_,rfl⟩
 have htk:tn<2 ^ 2 ^ k:=by rw [<- hk];have h:=ht.2;rw [htn] at h;exact_mod_cast h
 have HR:=hd_ (show sprd b=rpt k tn 16 by unfold sprd;rw [hk,htn,Int.toNat_natCast])
 have HL:=hd_ (fun j=>rpt_lt k tn j)
 have ht6:tn<65536:=Nat.lt_of_lt_of_le htk (by
  have h1:=Nat.pow_le_pow_right (n:=2) (by omega) (show k<=4 by omega)
  have h2:=Nat.pow_le_pow_right (n:=2) (by omega) h1
  omega)
 generalize sprd b=y at HR
 rw [hk,htn]
 have hk4:k<=4:=by omega
 clear ht htk
 have B1:=hd_ (bn_ w (.cells #[.slice b.A k b.c,.int .i64 (tn:Int),.bool b.ff,.bool b.it] 62))
 have X1:=hd_ (Blk.made w 62 #[.slice b.A k b.c,.int .i64 (tn:Int),.bool b.ff,.bool b.it])
 go_enter Tryz.func27,Tryz.ntmps27
 go_upto_region 1 with (fail)
 generalize w.alloc (.cells #[.slice b.A k b.c,.int .i64 (tn:Int),.bool b.ff,.bool b.it] 62)=w1 at B1 X1 ⊢
 have x0:=X1.out.cell 0
 go_wp2_with fail
 have hkk:wrap64 (2 ^ k)=((2 ^ k:Nat):Int):=shl_nat k (by omega)
 rw [hkk]
 obtain ⟨m,hm⟩:∃ m,2 ^ k=m:=⟨_,rfl⟩
 have HM:=hd_ hm
 have hm0:0<m:=by rw [<- hm];exact Nat.two_pow_pos _
 have hm16:m<=16:=by rw [<- hm];have:=Nat.pow_le_pow_right (n:=2) (by omega) hk4;omega
 rw [hm]
 clear hm hkk x0
 go_loopw [5,4] (fun v5 v4 wx=>∃ i:Nat,i<=16∧v5=.int .i64 (i:Int)∧v4=.int .i64 (rpt k tn i:Int)∧Below w1.heap.size w1 wx) (fun v5 _ _=>16-(intOf v5).toNat)
 case atStart=>exact ⟨0,by omega,rfl,rfl,br_⟩
 case round =>
  obtain ⟨i,hi,rfl,rfl,hb⟩:=hrel
  have BW:=hd_ hb
  clear hb
  have x1:=(X1.out.keep BW.out).cell 1
  by_cases hin:i<16
  ·have hin':(i:Int)<16:=by omega
   go_upto_region 6 with (fail)
   refine wp_region_still_in (by kernel_rfl) (by kernel_rfl) fun St9 ne9 V9 hV9 hS9=>?_
   have qx1:=still_cell hV9 x1
   repeat (first|go_big_quiet_step (fail)|quiet_step (fail))
   refine wpQuiet_nil ?_
   intro _ hw9
   obtain ⟨s9,rfl⟩:=hw9
   have hb9:=hV9 s9
   clear qx1 hS9
   generalize V9 s9=w9 at hb9 ⊢
   clear hV9 s9 V9 ne9 St9
   have hx16:i%m<16:=Nat.lt_of_lt_of_le (Nat.mod_lt i hm0) hm16
   have hxe:(i:Int)%(m:Int)=((i%m:Nat):Int):=by push_cast;rfl
   have HNX:=hd_ (show rpt k tn (i+1)=rpt k tn i+(tn/2 ^ (i%m)%2)*2 ^ i by rw [<- HM.out];rfl)
   have hrl:=HL.out i
   have hwe:IntKind.u64.wrap ((i:Int)%(m:Int))=((i%m:Nat):Int):=by rw [hxe];generalize i%m=x at hx16;unfold IntKind.wrap;simp [IntKind.bits,IntKind.signed];omega
   have hme:min (IntKind.u64.wrap ((i:Int)%(m:Int))).toNat 64=i%m:=by rw [hwe,Int.toNat_natCast];omega
   have hte:(tn:Int)/2 ^ (i%m)=((tn/2 ^ (i%m):Nat):Int):=by push_cast;rfl
   have hbe:bits .and .i64 ((tn/2 ^ (i%m):Nat):Int) 1=((tn/2 ^ (i%m)%2:Nat):Int):=by
    have h1:tn/2 ^ (i%m)<=tn:=Nat.div_le_self _ _
    have h:=i64_and_nat (tn/2 ^ (i%m)) 1 (by omega) (by omega)
    rw [Nat.and_one_is_mod] at h
    exact h
   rw [hme,hte,hbe]
   have B9:=hd_ (bt_ BW.out hb9)
   have hwi:wrap64 ((2:Int) ^ i)=((2 ^ i:Nat):Int):=shl_nat i (by omega)
   have hwu:IntKind.u64.wrap (i:Int)=(i:Int):=by unfold IntKind.wrap;simp [IntKind.bits,IntKind.signed];omega
   have hor:bits .or .i64 (rpt k tn i:Int) ((2 ^ i:Nat):Int)=((rpt k tn i+2 ^ i:Nat):Int):=bit_set _ i hrl (by omega)
   clear hb9 x1 BW hbe hte hme hwe hxe hrl
   generalize rpt k tn i=r at HNX hor ⊢
   obtain h0|h0:tn/2 ^ (i%m)%2=0∨tn/2 ^ (i%m)%2=1:=by omega
   ·rw [h0] at HNX ⊢
    go_wp2_with fail
    go_roundw
    case rel=>exact ⟨i+1,by omega,by go_num,by rw [HNX.out];simp,B9.out⟩
    case measure=>simp [intOf];omega
   ·rw [h0] at HNX ⊢
    go_wp2_with fail
    go_roundw
    case rel=>exact ⟨i+1,by omega,by go_num,by rw [HNX.out,Nat.one_mul,<- hor];push_cast;rfl,B9.out⟩
    case measure=>simp [intOf];omega
  ·obtain rfl:i=16:=by omega
   go_wp2_with fail
   go_ret
   exact ⟨by rw [HR.out];rfl,bt_ B1.out BW.out⟩
end Go.Proofs.YtmkiphadkmodnaaGreat
namespace Go.Proofs.YtmkiphadkmodnaaGreat
open Go.RowKit
def IndexA (y:Bool) (w:World) (e:Ending) (w':World):Prop:=∃ i:Int,e=.returned (.int .i64 i)∧(0<=i↔y=true)∧Below w.heap.size w w'
theorem indexI_any (F:FuncId) (hF:∀ (args:Array Value) (w:World),(callFunc F args).run Tryz.prog w=.ok (.enter F args) w) (cap:Value) (bad:Int->Bool) (w:World) (A:Option Addr) (n c:Nat) (l:List Int) (hr:Rd w 1 A n c (ints l)) (hn:n<=100000)
  (hcl:∀ x ∈ l,∀ W:World,Below w.heap.size w W->Calls Tryz.prog F #[.int .i64 x,cap] W fun r w'=>r=.returned (.bool (bad x))∧Below W.heap.size W w') :
  Calls Tryz.prog 101 #[.slice A n c,.func (.func F) #[] #[cap]] w (IndexA (l.any bad) w):=by
 have hl:n=l.length:=by have:=hr.len;rw [ints_length] at this;omega
 have HL:=hd_ hl
 have HR:=hd_ hr
 have HA:=hd_ hcl
 clear hl hr hcl
 go_enter Tryz.func101,Tryz.ntmps101
 go_wp2_with fail
 go_loopw [8] (fun i wx=>∃ k:Nat,k<=n∧i=.int .i64 (k:Int)∧(l.take k).any bad=false∧Below w.heap.size w wx) (fun i _=>n-(intOf i).toNat)
 case atStart=>exact ⟨0,by omega,rfl,by simp,br_⟩
 case round =>
  obtain ⟨k,hk,rfl,hno,hB⟩:=hrel
  have HN:=hd_ hno
  have B1:=hd_ hB
  clear hno hB
  by_cases hlt:k<n
  ·obtain ⟨a,rfl,hab,c0⟩:=(HR.out.later B1.out).int hlt
   have hk':k<l.length:=by rw [<- HL.out];exact hlt
   have hg:l.getD k 0=l[k]:=by rw [List.getD_eq_getElem?_getD,List.getElem?_eq_getElem hk'];rfl
   rw [hg] at c0
   have htk:(l.take (k+1)).any bad=((l.take k).any bad||bad l[k]):=by
    rw [List.take_succ_eq_append_getElem hk',List.any_append];simp
   have hmem:bad l[k]=true->l.any bad=true:=fun hx=>List.any_eq_true.2 ⟨l[k],List.getElem_mem hk',hx⟩
   have HCL:=hd_ (HA.out _ (List.getElem_mem hk') wr B1.out)
   have HT:=hd_ htk
   have HM:=hd_ hmem
   clear htk hmem hg
   generalize l[k]=t at c0 HT HM HCL
   go_wp2_with fail
   refine HCL.out.mono ?_
   rintro e w1 ⟨rfl,hb1⟩
   have B2:=hd_ (bt_ B1.out hb1)
   clear hb1 HCL
   cases ho:bad t with
   | true =>
    go_wp2_with fail
    go_ret
    exact ⟨(k:Int),rfl,⟨fun _=>HM.out ho,fun _=>by omega⟩,B2.out⟩
   | false =>
    go_wp2_with fail
    go_roundw
    case rel=>exact ⟨k+1,by omega,by go_num,by rw [HT.out,HN.out,ho];rfl,B2.out⟩
    case measure=>simp [intOf];omega
  ·obtain rfl:k=n:=by omega
   go_wp2_with fail
   go_ret
   refine ⟨-1,rfl,⟨fun h=>absurd h (by omega),fun h=>?_⟩,B1.out⟩
   have:=HN.out
   rw [List.take_of_length_le (by rw [<- HL.out];exact Nat.le_refl _)] at this
   rw [this] at h
   cases h
theorem containsI_any (F:FuncId) (hF:∀ (args:Array Value) (w:World),(callFunc F args).run Tryz.prog w=.ok (.enter F args) w) (cap:Value) (bad:Int->Bool) (w:World) (A:Option Addr) (n c:Nat) (l:List Int) (hr:Rd w 1 A n c (ints l)) (hn:n<=100000)
  (hcl:∀ x ∈ l,∀ W:World,Below w.heap.size w W->Calls Tryz.prog F #[.int .i64 x,cap] W fun r w'=>r=.returned (.bool (bad x))∧Below W.heap.size W w') :
  Calls Tryz.prog 62 #[.slice A n c,.func (.func F) #[] #[cap]] w fun r w'=>r=.returned (.bool (l.any bad))∧Below w.heap.size w w':=by
 have HX:=hd_ (indexI_any F hF cap bad w A n c l hr hn hcl)
 obtain ⟨r,hr2⟩:∃ r,l.any bad=r:=⟨_,rfl⟩
 rw [hr2] at HX ⊢
 clear hr hcl hr2
 go_enter Tryz.func62,Tryz.ntmps62
 go_wp2_with fail
 refine HX.out.mono ?_
 rintro e w1 ⟨i,rfl,hx,hb1⟩
 have HI:=hd_ hx
 have B1:=hd_ hb1
 clear hx hb1
 by_cases h0:0<=i
 ·have hd:decide (0<=i)=true:=decide_eq_true h0
  have HR:=hd_ (HI.out.1 h0)
  go_wp2_with fail
  go_ret
  exact ⟨by rw [HR.out];rfl,B1.out⟩
 ·have hd:decide (0<=i)=false:=decide_eq_false h0
  have hr:r=false:=by cases r with
   | false=>rfl
   | true=>exact absurd (HI.out.2 rfl) h0
  have HR:=hd_ hr
  clear hr
  go_wp2_with fail
  go_ret
  exact ⟨by rw [HR.out];rfl,B1.out⟩
theorem within1_any (x n:Int) (g:Nat) (w:World) (h:w.cell? ⟨g,0,none⟩=some (.int .i64 n)) :
  Calls Tryz.prog 96 #[.int .i64 x,.pointer (some ⟨g,0,none⟩)] w fun r w'=>r=.returned (.bool (badB n x))∧Below w.heap.size w w':=by
 have HB:=hd_ (show badB n x=(decide (x<0)||decide (n<=x)) from rfl)
 by_cases h0:x<0
 ·have hb:=hd_ (show badB n x=true by rw [HB.out,decide_eq_true h0];rfl)
  clear HB
  go_enter Tryz.func96,Tryz.ntmps96
  go_wp2_with fail
  go_ret
  exact ⟨by rw [hb.out];rfl,br_⟩
 ·have h0':decide (x<0)=false:=decide_eq_false h0
  by_cases h1:n<=x
  ·have hb:=hd_ (show badB n x=true by rw [HB.out,decide_eq_true h1,Bool.or_true])
   have h1':decide (n<=x)=true:=decide_eq_true h1
   clear HB
   go_enter Tryz.func96,Tryz.ntmps96
   go_wp2_with fail
   go_ret
   exact ⟨by rw [hb.out];rfl,br_⟩
  ·have hb:=hd_ (show badB n x=false by rw [HB.out,decide_eq_false h0,decide_eq_false h1];rfl)
   have h1':decide (n<=x)=false:=decide_eq_false h1
   clear HB
   go_enter Tryz.func96,Tryz.ntmps96
   go_wp2_with fail
   go_ret
   exact ⟨by rw [hb.out];rfl,br_⟩
theorem within_any (n:Int) (A:Option Addr) (k c:Nat) (l:List Int) (w:World) (hr:Rd w 1 A k c (ints l)) (hk:k<=100000) :
  Calls Tryz.prog 55 #[.int .i64 n,.slice A k c] w fun r w'=>r=.returned (.bool (!l.any (badB n)))∧Below w.heap.size w w':=by
 have B0:=hd_ (bn_ w (.cells #[.int .i64 n] 3))
 have T0:=hd_ (Blk.made w 3 #[.int .i64 n])
 have HC:=hd_ (containsI_any 96 (fun args w=>by kernel_rfl) (.pointer (some ⟨w.heap.size,0,none⟩)) (badB n) _ A k c l (hr.later B0.out) hk (fun x _ W hW=>within1_any x n w.heap.size W ((T0.out.keep hW).cell 0)))
 obtain ⟨r,hr2⟩:∃ r,l.any (badB n)=r:=⟨_,rfl⟩
 rw [hr2] at HC ⊢
 clear hr hr2 T0
 go_enter Tryz.func55,Tryz.ntmps55
 go_wp2_with fail
 refine HC.out.mono ?_
 rintro e w1 ⟨rfl,hb1⟩
 have B1:=hd_ (bt_ B0.out hb1)
 clear hb1 HC
 cases r <;> (go_wp2_with fail;go_ret;exact ⟨rfl,B1.out⟩)
theorem indexX_any (x:Int) (A:Option Addr) (n c:Nat) (l:List Int) (w:World) (hr:Rd w 1 A n c (ints l)) (hn:n<=100000) :
  Calls Tryz.prog 100 #[.slice A n c,.int .i64 x] w (IndexA (decide (x ∈ l)) w):=by
 have hl:n=l.length:=by have:=hr.len;rw [ints_length] at this;omega
 have HL:=hd_ hl
 have HR:=hd_ hr
 clear hl hr
 go_enter Tryz.func100,Tryz.ntmps100
 go_wp2_with fail
 go_loopw [8] (fun i wx=>∃ k:Nat,k<=n∧i=.int .i64 (k:Int)∧Below w.heap.size w wx∧Hid (x ∉ l.take k)) (fun i _=>n-(intOf i).toNat)
 case atStart=>exact ⟨0,by omega,rfl,br_,hd_ (by simp)⟩
 case round =>
  obtain ⟨k,hk,rfl,hB,HN⟩:=hrel
  have B1:=hd_ hB
  clear hB
  by_cases hlt:k<n
  ·have hlt':(k:Int)<(n:Int):=by omega
   have hk':k<l.length:=by rw [<- HL.out];exact hlt
   obtain ⟨a,rfl,hab,c0⟩:=(HR.out.later B1.out).int hlt
   have hg:l.getD k 0=l[k]:=by rw [List.getD_eq_getElem?_getD,List.getElem?_eq_getElem hk'];rfl
   have HT:=hd_ (show l.take (k+1)=l.take k++[l.getD k 0] by rw [List.take_succ_eq_append_getElem hk',hg])
   have HM:=hd_ (show l.getD k 0 ∈ l by rw [hg];exact List.getElem_mem hk')
   clear hg
   generalize l.getD k 0=t at c0 HT HM
   by_cases hx:x=t
   ·have hd:(x==t)=true:=by rw [hx];exact beq_self_eq_true _
    have HX:=hd_ hx
    clear hx
    go_wp2_with fail
    go_ret
    exact ⟨(k:Int),rfl,⟨fun _=>decide_eq_true (by rw [HX.out];exact HM.out),fun _=>by omega⟩,B1.out⟩
   ·have hd:(x==t)=false:=by rw [beq_eq_false_iff_ne];exact hx
    have HX:=hd_ hx
    clear hx
    go_wp2_with fail
    go_roundw
    case rel=>exact ⟨k+1,by omega,by go_num,B1.out,hd_ (by rw [HT.out,List.mem_append,List.mem_singleton];exact fun h=>h.elim HN.out HX.out)⟩
    case measure=>simp [intOf];omega
  ·obtain rfl:n=k:=by omega
   have hlt':¬ (n:Int)<(n:Int):=by omega
   go_wp2_with fail
   go_ret
   have:=HN.out
   rw [List.take_of_length_le (by rw [<- HL.out];exact Nat.le_refl _)] at this
   exact ⟨-1,rfl,⟨fun h=>absurd h (by omega),fun h=>absurd (of_decide_eq_true h) this⟩,B1.out⟩
theorem containsX_any (x:Int) (A:Option Addr) (n c:Nat) (l:List Int) (w:World) (hr:Rd w 1 A n c (ints l)) (hn:n<=100000) :
  Calls Tryz.prog 60 #[.slice A n c,.int .i64 x] w fun r w'=>r=.returned (.bool (decide (x ∈ l)))∧Below w.heap.size w w':=by
 have HX:=hd_ (indexX_any x A n c l w hr hn)
 obtain ⟨r,hr2⟩:∃ r,decide (x ∈ l)=r:=⟨_,rfl⟩
 rw [hr2] at HX ⊢
 clear hr hr2
 go_enter Tryz.func60,Tryz.ntmps60
 go_wp2_with fail
 refine HX.out.mono ?_
 rintro e w1 ⟨i,rfl,hx,hb1⟩
 have HI:=hd_ hx
 have B1:=hd_ hb1
 clear hb1 hx
 by_cases h0:0<=i
 ·have hd:decide (0<=i)=true:=decide_eq_true h0
  have HR:=hd_ (HI.out.1 h0)
  go_wp2_with fail
  go_ret
  exact ⟨by rw [HR.out];rfl,B1.out⟩
 ·have hd:decide (0<=i)=false:=decide_eq_false h0
  have hr:r=false:=by cases r with
   | false=>rfl
   | true=>exact absurd (HI.out.2 rfl) h0
  have HR:=hd_ hr
  clear hr
  go_wp2_with fail
  go_ret
  exact ⟨by rw [HR.out];rfl,B1.out⟩
end Go.Proofs.YtmkiphadkmodnaaGreat
