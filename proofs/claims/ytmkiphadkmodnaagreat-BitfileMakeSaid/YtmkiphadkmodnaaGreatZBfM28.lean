/- BfM, 28 -/
import Derived.BigRegion
import Derived.ChangeAlike
import Derived.RegionTactic
import Derived.Test.YtmkiphadkmodnaaGreatZBfM26
import Derived.Test.YtmkiphadkmodnaaGreatZBfM8
import Derived.Test.YtmkiphadkmodnaaGreatZBfM27
import Derived.Test.YtmkiphadkmodnaaGreatZBfM9
import Derived.Test.YtmkiphadkmodnaaGreatZBfM0
set_option linter.all false
set_option maxRecDepth 100000
set_option maxHeartbeats 8000000
namespace Go.Proofs.YtmkiphadkmodnaaGreat
open Go.RowKit
theorem hlen_any (A:Option Addr) (n c:Nat) (w:World) (hn:n<=100000000) :
  Calls Tryz.prog 167 #[.slice A n c] w fun e w'=>e=.returned (.int .i64 (n:Int))∧w=w':=by
 go_enter Tryz.func167,Tryz.ntmps167
 go_wp2_with fail
 go_ret
 exact ⟨rfl,rfl⟩
def LessOut (r:Bool) (w:World) (e:Ending) (w':World):Prop:=e=.returned (.bool r)∧∃ q,w'=w.drewN q
theorem hless_any (A:Option Addr) (n c:Nat) (l:List Int) (i j:Nat) (w:World) (hr:Rd w 1 A n c (ints l)) (hi:i<n) (hj:j<n) (hn:n<=100000000) :
  Calls Tryz.prog 168 #[.slice A n c,.int .i64 (i:Int),.int .i64 (j:Int)] w (LessOut (decide (l.getD i 0<l.getD j 0)) w):=by
 obtain ⟨a,rfl,hab,c0⟩:=hr.int hi
 obtain ⟨a',ha,-,c1⟩:=hr.int hj
 obtain rfl:=Option.some.inj ha
 have HR:=hd_ hr
 clear hr ha
 have hi':(i:Int)<n:=by omega
 have hj':(j:Int)<n:=by omega
 generalize l.getD i 0=x at c0
 generalize l.getD j 0=y at c1
 go_enter Tryz.func168,Tryz.ntmps168
 go_wp2_with fail
 go_quiet (fail)
 go_wp2_with fail
 go_ret
 exact ⟨rfl,_,rfl⟩
def swapL (l:List Int) (i j:Nat):List Int:=(l.set i (l.getD j 0)).set j (l.getD i 0)
def SwapOut (base g n c:Nat) (l:List Int) (i j:Nat) (w:World) (e:Ending) (w':World):Prop :=
 e=.returned (.tuple #[])∧w'.ownsRow base 3 1 (.slice (some ⟨g,0,none⟩) n c) n (ints (swapL l i j))∧w.grownBy w' (some g)
theorem hswap_any (base g n c:Nat) (l:List Int) (i j:Nat) (w:World) (ho:w.ownsRow base 3 1 (.slice (some ⟨g,0,none⟩) n c) n (ints l)) (hi:i<n) (hj:j<n) (hn:n<=100000000) :
  Calls Tryz.prog 169 #[.slice (some ⟨g,0,none⟩) n c,.int .i64 (i:Int),.int .i64 (j:Int)] w (SwapOut base g n c l i j w):=by
 have fi:=ho.frozenAt i
 have fj:=ho.frozenAt j
 have hr:=Rd.of_own ho
 obtain ⟨a,ha,hab,c0⟩:=hr.int hi
 obtain ⟨a',ha',-,c1⟩:=hr.int hj
 obtain rfl:=Option.some.inj ha
 obtain rfl:=Option.some.inj ha'
 rw [show ∀ k,(Addr.add ⟨g,0,none⟩ k)=⟨g,k,none⟩ from fun k=>by rw [Addr.add_lit];simp] at c0 c1
 have HO:=hd_ ho
 clear ho hr ha ha'
 have hi':(i:Int)<n:=by omega
 have hj':(j:Int)<n:=by omega
 obtain ⟨x,hx⟩:∃ x,l.getD i 0=x:=⟨_,rfl⟩
 obtain ⟨y,hy⟩:∃ y,l.getD j 0=y:=⟨_,rfl⟩
 rw [hx] at c0
 rw [hy] at c1
 have HX:=hd_ hx
 have HY:=hd_ hy
 clear hx hy
 obtain ⟨v',hv'⟩:=cell?_setCell_some (w:=w) (p:=⟨g,i,none⟩) (x:=.int .i64 y) (q:=⟨g,j,none⟩) (v:=.int .i64 y) c1
 go_enter Tryz.func169,Tryz.ntmps169
 go_wp2_with fail
 go_region
 go_end0
 have S1:=HO.out.stored i (.int .i64 y)
 have S2:=S1.1.stored j (.int .i64 x)
 refine ⟨rfl,?_,?_⟩
 ·have:=S2.1
  rw [show ((ints l).set i (.int .i64 y)).set j (.int .i64 x)=ints (swapL l i j) by unfold swapL;rw [HX.out,HY.out];simp [ints,List.map_set]] at this
  exact this
 ·exact grown_on (grown_on S1.2 S2.2) ⟨rfl,rfl,rfl,Nat.le_refl _,fun _ _ _=>rfl⟩
structure HQ (w:World) (base R:Nat) (A:Option Addr) (c:Nat) (l:List Int):Prop where
 box:Blk w R 165 #[.slice A l.length c]
 row:w.ownsRow base 3 1 (.slice A l.length c) l.length (ints l)
structure HK (w w':World) (R:Nat) (row:Option Nat):Prop where
 os:w'.os=w.os
 tape:w'.tape=w.tape
 output:w'.output=w.output
 size:w.heap.size<=w'.heap.size
 block:∀ k,k<w.heap.size->k≠R->some k≠row->w'.heap[k]? = w.heap[k]?
theorem HK.refl (w:World) (R:Nat) (row:Option Nat):HK w w R row:=⟨rfl,rfl,rfl,Nat.le_refl _,fun _ _ _ _=>rfl⟩
theorem HK.grown {w w':World} {row:Option Nat} (h:w.grownBy w' row) (R:Nat):HK w w' R row:=⟨h.os,h.tape,h.output,h.size,fun k hk _ hr=>h.block k hk hr⟩
theorem HK.trans {a b c:World} {R:Nat} {row:Option Nat} (h:HK a b R row) (k:HK b c R row):HK a c R row :=
 ⟨k.os.trans h.os,k.tape.trans h.tape,k.output.trans h.output,Nat.le_trans h.size k.size,fun i hi h1 h2=>(k.block i (Nat.lt_of_lt_of_le hi h.size) h1 h2).trans (h.block i hi h1 h2)⟩
theorem HK.trans_new {a b c:World} {R:Nat} {row row':Option Nat} (h:HK a b R row) (k:HK b c R row') (hn:row'=row∨∀ g,row'=some g->a.heap.size<=g):HK a c R row:=by
 refine ⟨k.os.trans h.os,k.tape.trans h.tape,k.output.trans h.output,Nat.le_trans h.size k.size,fun i hi h1 h2=>(k.block i (Nat.lt_of_lt_of_le hi h.size) h1 ?_).trans (h.block i hi h1 h2)⟩
 rcases hn with rfl|hn
 ·exact h2
 ·intro e
  have:=hn i e.symm
  omega
theorem HK.set (w:World) (R i:Nat) (v:Value) (row:Option Nat):HK w (w.setCell ⟨R,i,none⟩ v) R row :=
 ⟨rfl,rfl,rfl,by simp,fun k _ hk _=>Below.heap_setCell w ⟨R,i,none⟩ v k hk⟩
theorem HK.drew {w w':World} {R:Nat} {row:Option Nat} (h:HK w w' R row) (n:Nat):HK w (w'.drewN n) R row:=⟨h.os,h.tape,h.output,h.size,h.block⟩
theorem HQ.drew {w:World} {base R:Nat} {A:Option Addr} {c:Nat} {l:List Int} (h:HQ w base R A c l) (n:Nat):HQ (w.drewN n) base R A c l:=⟨h.box,h.row⟩
theorem HQ.ne {w:World} {base R:Nat} {A:Option Addr} {c:Nat} {l:List Int} (h:HQ w base R A c l):(Value.slice A l.length c).ownBlock≠some R:=own_other h.row h.box (by decide)
theorem HQ.turned {w w':World} {base R:Nat} {A A':Option Addr} {c:Nat} {l l':List Int} (h:HQ w base R A c l) (hl:l'.length=l.length) (hA:A'=A) (ho:w'.ownsRow base 3 1 (.slice A l.length c) l.length (ints l')) (hg:w.grownBy w' (Value.slice A l.length c).ownBlock):HQ w' base R A' c l':=by
 subst hA
 exact ⟨by rw [hl];exact h.box.grown hg (fun e=>h.ne e.symm),by rw [hl];exact ho⟩
def PushOut (base R:Nat) (A:Option Addr) (c:Nat) (l:List Int) (x:Int) (w:World) (e:Ending) (w':World):Prop :=
 e=.returned (.tuple #[])∧∃ A' c',HQ w' base R A' c' (l++[x])∧HK w w' R (Value.slice A l.length c).ownBlock∧((Value.slice A' (l.length+1) c').ownBlock=(Value.slice A l.length c).ownBlock∨∀ g,(Value.slice A' (l.length+1) c').ownBlock=some g->w.heap.size<=g)
theorem push_end {w w9:World} {base R n c g9 cap9 m:Nat} {A:Option Addr} {l:List Int} {x:Int} (hB:Blk w R 165 #[.slice A n c]) (hB9:Blk w9 R 165 #[.slice A n c])
  (ho:w9.ownsRow base 3 1 (.slice (some ⟨g9,0,none⟩) (n+1) cap9) (n+1) (ints l++[.int .i64 x])) (hg:w.grownBy w9 (Value.slice A n c).ownBlock)
  (hat:(Value.slice A n c).ownBlock=some g9∨g9=w.heap.size+1) (hn:n=l.length) :
  PushOut base R A c l x w (.returned (.tuple #[])) ((w9.setCell ⟨R,0,none⟩ (.slice (some ⟨g9,0,none⟩) (n+1) cap9)).drewN m):=by
 subst hn
 refine ⟨rfl,some ⟨g9,0,none⟩,cap9,HQ.drew ⟨?_,?_⟩ m,?_,?_⟩
 ·have:=hB9.put 0 (.slice (some ⟨g9,0,none⟩) (l.length+1) cap9)
  simpa using this
 ·have h1:=ownsRow_setCell_other ho (a:=⟨R,0,none⟩) (own_other ho hB9 (by decide)) (.slice (some ⟨g9,0,none⟩) (l.length+1) cap9)
  have e:ints l++[.int .i64 x]=ints (l++[x]):=by simp [ints]
  rw [e] at h1
  simpa using h1
 ·exact ((HK.grown hg R).trans (HK.set w9 R 0 _ _)).drew m
 ·rcases hat with h|h
  ·exact .inl (by rw [h];rfl)
  ·exact .inr fun g e=>by simp [Value.ownBlock] at e;omega
theorem hpush_any (base R n c:Nat) (A:Option Addr) (l:List Int) (x:Int) (w:World) (h:HQ w base R A c l) (hn:l.length<=100000000) (hb:base<=w.heap.size) :
  Calls Tryz.prog 171 #[.pointer (some ⟨R,0,none⟩),.iface 3 (.int .i64 x)] w (PushOut base R A c l x w):=by
 have hne:=h.ne
 obtain ⟨hB,hO⟩:=h
 obtain ⟨n,hnn⟩:∃ n,l.length=n:=⟨_,rfl⟩
 rw [hnn] at hB hO hne hn
 have HNN:=hd_ hnn
 have k0:w.cell? ⟨R,0,none⟩=some (.slice A n c):=hB.cell 0
 have hR:R<w.heap.size:=hB.lt
 obtain ⟨i0,hi0,hz0,hz1,hz2⟩:=info_parts int_info
 have HI0:=hd_ hi0
 have HZ0:=hd_ hz0
 have HZ1:=hd_ hz1
 have HZ2:=hd_ hz2
 have HB:=hd_ hB
 have HO:=hd_ hO
 have HNE:=hd_ (fun e=>hne e.symm:some R≠(Value.slice A n c).ownBlock)
 have hta:∀ w:World,(Instr.typeAssert (.iface 3 (.int .i64 x)) 20 3 false).run Tryz.prog w=.ok (.int .i64 x) w:=fun _=>by kernel_rfl
 clear hi0 hz0 hz1 hz2 hB hO hne hnn
 go_enter Tryz.func171,Tryz.ntmps171
 go_wp2_with fail
 refine wp_region_held_drew (S:=(fun _=>True)) (by kernel_rfl) ?_ (fun hh=>?_)
 ·trivial
 refine tk_ 0 (⟨some 4,.move (.tmp 0),167,_,#[],none⟩) (v:=?_) ?_ ?_
 rotate_left
 ·intro w hSw;(try dsimp only at hSw);go_simp;(try with_reducible rfl)
 try simp only [Act.put,la_,lz_,ls_]
 refine tk_ 1 (⟨some 5,.move (.tmp 0),167,_,#[],none⟩) (v:=?_) ?_ ?_
 rotate_left
 ·intro w hSw;(try dsimp only at hSw);go_simp;(try with_reducible rfl)
 try simp only [Act.put,la_,lz_,ls_]
 refine tk_ 2 (⟨some 6,.nilCheck (.tmp 5),0,_,#[⟨1,.data⟩],none⟩) (v:=?_) ?_ ?_
 rotate_left
 ·intro w hSw;(try dsimp only at hSw);go_simp;(try with_reducible rfl)
 try simp only [Act.put,la_,lz_,ls_]
 refine tk_ 4 (⟨some 8,.move (.tmp 1),20,_,#[],none⟩) (v:=?_) ?_ ?_
 rotate_left
 ·intro w hSw;(try dsimp only at hSw);go_simp;(try with_reducible rfl)
 try simp only [Act.put,la_,lz_,ls_]
 refine tk_ 5 (⟨some 9,.typeAssert (.tmp 8) 20 3 false,3,_,#[⟨4,.data⟩],none⟩) (v:=?_) ?_ ?_
 rotate_left
 ·intro w hSw;(try dsimp only at hSw);go_simp;(try with_reducible rfl)
 try simp only [Act.put,la_,lz_,ls_]
 refine rd_ [3,6] ?_
 refine AllReadyH.cons (o:=⟨some 7,.load 165 (.tmp 6),165,_,#[⟨2,.data⟩],none⟩) rfl (fun K hK=>?_) (AllReadyH.cons (o:=⟨some 10,.buildSlice 165 1 #[(0,.tmp 9)],165,_,#[⟨5,.data⟩],none⟩) rfl (fun K hK=>?_) AllReadyH.nil)
 ·skip
  go_simp
  refine hK.out _ _ ?_ (fun hh=>?_)
  ·trivial
  clear hK K
  try simp only [Act.put,la_,lz_,ls_]
  refine rd_ [6] ?_
  refine AllReadyH.cons (o:=⟨some 10,.buildSlice 165 1 #[(0,.tmp 9)],165,_,#[⟨5,.data⟩],none⟩) rfl (fun K hK=>?_) AllReadyH.nil
  go_simp
  refine hK.out _ _ ?_ (fun hh=>?_)
  ·trivial
  clear hK K
  try simp only [Act.put,la_,lz_,ls_]
  refine rd_ [7] ?_
  refine AllReadyH.cons (o:=⟨some 11,.call { callee:=.builtin Builtin.append,args:=#[.tmp 7,.tmp 10],argTypes:=#[165,165] },165,_,#[⟨3,.data⟩,⟨6,.data⟩],none⟩) rfl (fun K hK=>?_) AllReadyH.nil
  have T8:=HO.out.alloc (.cells #[.int .i64 x] 3)
  refine step_append_lies _ (by rfl) (.tmp 7) (.tmp 10) 165 (by rfl) base 3 i0 (.int .i64 0) 1 8 Tryz.underlying165 HI0.out HZ0.out HZ1.out HZ2.out rfl (by decide) (.slice A n c) n (ints l) (by rfl) T8 ⟨w.heap.size,0,none⟩ 1 1 [.int .i64 x] (by rfl) rfl (new_cells w _ _) (by intro u hu;simp at hu;rcases hu with rfl;rfl) (by decide) (by unfold maxLen;omega) (by omega) (by simp;omega) (w.heap.size+1) (by simp) ?_
  intro g9 cap9 w9 hown9 hg9 hat9 hlt9
  have hg9':=(World.grownBy_alloc w (.cells #[.int .i64 x] 3) (Value.slice A n c).ownBlock).trans (show (w.alloc (.cells #[.int .i64 x] 3)).grownBy w9 (Value.slice A n c).ownBlock from ⟨hg9.os,hg9.tape,hg9.output,hg9.size,hg9.block⟩)
  have B9:=HB.out.grown hg9' HNE.out
  have k9:w9.cell? ⟨R,0,none⟩=some (.slice A n c):=B9.cell 0
  have f9:=B9.free 0
  refine hK.out _ _ ?_ (fun hh=>?_)
  ·trivial
  clear hK K
  try simp only [Act.put,la_,lz_,ls_]
  refine rd_ [8] ?_
  refine AllReadyH.cons (o:=⟨some 12,.nilCheck (.tmp 4),0,_,#[⟨0,.data⟩,⟨0,.phase⟩,⟨1,.phase⟩,⟨2,.phase⟩,⟨3,.phase⟩,⟨4,.phase⟩,⟨5,.phase⟩,⟨6,.phase⟩,⟨7,.phase⟩],none⟩) rfl (fun K hK=>?_) AllReadyH.nil
  go_simp
  refine hK.out _ _ ?_ (fun hh=>?_)
  ·trivial
  clear hK K
  try simp only [Act.put,la_,lz_,ls_]
  refine rd_ [9] ?_
  refine AllReadyH.cons (o:=⟨none,.store 165 (.tmp 12) (.tmp 11),0,_,#[⟨8,.data⟩,⟨7,.data⟩,⟨7,.chain⟩,⟨0,.phase⟩,⟨1,.phase⟩,⟨2,.phase⟩,⟨3,.phase⟩,⟨4,.phase⟩,⟨5,.phase⟩,⟨6,.phase⟩,⟨7,.phase⟩],none⟩) rfl (fun K hK=>?_) AllReadyH.nil
  go_simp
  refine hK.out _ _ ?_ (fun hh=>?_)
  ·trivial
  clear hK K
  try simp only [Act.put,la_,lz_,ls_]
  refine wpAnyH_done (by kernel_rfl) ?_ _
  have HB9:=hd_ B9
  have HO9:=hd_ hown9
  have HG9:=hd_ hg9'
  have HAT:=hd_ hat9
  clear hown9 hg9' hg9 hat9 hlt9 B9 k9 f9 hh
  go_wp2_with fail
  go_end0
  exact push_end (m:=0) HB.out HB9.out HO9.out HG9.out HAT.out HNN.out.symm
 ·skip
  go_simp
  refine hK.out _ _ ?_ (fun hh=>?_)
  ·trivial
  clear hK K
  try simp only [Act.put,la_,lz_,ls_]
  refine rd_ [3] ?_
  refine AllReadyH.cons (o:=⟨some 7,.load 165 (.tmp 6),165,_,#[⟨2,.data⟩],none⟩) rfl (fun K hK=>?_) AllReadyH.nil
  go_simp
  refine hK.out _ _ ?_ (fun hh=>?_)
  ·trivial
  clear hK K
  try simp only [Act.put,la_,lz_,ls_]
  refine rd_ [7] ?_
  refine AllReadyH.cons (o:=⟨some 11,.call { callee:=.builtin Builtin.append,args:=#[.tmp 7,.tmp 10],argTypes:=#[165,165] },165,_,#[⟨3,.data⟩,⟨6,.data⟩],none⟩) rfl (fun K hK=>?_) AllReadyH.nil
  have T8:=HO.out.alloc (.cells #[.int .i64 x] 3)
  refine step_append_lies _ (by rfl) (.tmp 7) (.tmp 10) 165 (by rfl) base 3 i0 (.int .i64 0) 1 8 Tryz.underlying165 HI0.out HZ0.out HZ1.out HZ2.out rfl (by decide) (.slice A n c) n (ints l) (by rfl) T8 ⟨w.heap.size,0,none⟩ 1 1 [.int .i64 x] (by rfl) rfl (new_cells w _ _) (by intro u hu;simp at hu;rcases hu with rfl;rfl) (by decide) (by unfold maxLen;omega) (by omega) (by simp;omega) (w.heap.size+1) (by simp) ?_
  intro g9 cap9 w9 hown9 hg9 hat9 hlt9
  have hg9':=(World.grownBy_alloc w (.cells #[.int .i64 x] 3) (Value.slice A n c).ownBlock).trans (show (w.alloc (.cells #[.int .i64 x] 3)).grownBy w9 (Value.slice A n c).ownBlock from ⟨hg9.os,hg9.tape,hg9.output,hg9.size,hg9.block⟩)
  have B9:=HB.out.grown hg9' HNE.out
  have k9:w9.cell? ⟨R,0,none⟩=some (.slice A n c):=B9.cell 0
  have f9:=B9.free 0
  refine hK.out _ _ ?_ (fun hh=>?_)
  ·trivial
  clear hK K
  try simp only [Act.put,la_,lz_,ls_]
  refine rd_ [8] ?_
  refine AllReadyH.cons (o:=⟨some 12,.nilCheck (.tmp 4),0,_,#[⟨0,.data⟩,⟨0,.phase⟩,⟨1,.phase⟩,⟨2,.phase⟩,⟨3,.phase⟩,⟨4,.phase⟩,⟨5,.phase⟩,⟨6,.phase⟩,⟨7,.phase⟩],none⟩) rfl (fun K hK=>?_) AllReadyH.nil
  go_simp
  refine hK.out _ _ ?_ (fun hh=>?_)
  ·trivial
  clear hK K
  try simp only [Act.put,la_,lz_,ls_]
  refine rd_ [9] ?_
  refine AllReadyH.cons (o:=⟨none,.store 165 (.tmp 12) (.tmp 11),0,_,#[⟨8,.data⟩,⟨7,.data⟩,⟨7,.chain⟩,⟨0,.phase⟩,⟨1,.phase⟩,⟨2,.phase⟩,⟨3,.phase⟩,⟨4,.phase⟩,⟨5,.phase⟩,⟨6,.phase⟩,⟨7,.phase⟩],none⟩) rfl (fun K hK=>?_) AllReadyH.nil
  go_simp
  refine hK.out _ _ ?_ (fun hh=>?_)
  ·trivial
  clear hK K
  try simp only [Act.put,la_,lz_,ls_]
  refine wpAnyH_done (by kernel_rfl) ?_ _
  have HB9:=hd_ B9
  have HO9:=hd_ hown9
  have HG9:=hd_ hg9'
  have HAT:=hd_ hat9
  clear hown9 hg9' hg9 hat9 hlt9 B9 k9 f9 hh
  go_wp2_with fail
  go_end0
  exact push_end (m:=0) HB.out HB9.out HO9.out HG9.out HAT.out HNN.out.symm
theorem own_cut {w:World} {base g n c m:Nat} {e:TypeId} {xs:List Value} (h:w.ownsRow base e 1 (.slice (some ⟨g,0,none⟩) n c) n xs) (hm:m<=n):w.ownsRow base e 1 (.slice (some ⟨g,0,none⟩) m c) m (xs.take m):=by
 have hl:=h.1
 refine ⟨by simp;omega,?_⟩
 rcases h.2 with ⟨h',_⟩|⟨g',cap',cur,h',hb,hg,hnc,hcm,hcs,htake⟩
 ·simp at h'
 ·simp only [Value.slice.injEq,Option.some.injEq,Addr.mk.injEq,and_true,true_and] at h'
  obtain ⟨rfl,rfl⟩:=h'
  refine .inr ⟨g,c,cur,rfl,hb,hg,by omega,hcm,hcs,?_⟩
  rw [<- htake,List.take_take]
  congr 1
  omega
theorem own_some {w:World} {base:Nat} {e:TypeId} {size n c:Nat} {A:Option Addr} {xs:List Value} (h:w.ownsRow base e size (.slice A n c) n xs) (hn:0<n):∃ g,A=some ⟨g,0,none⟩∧base<=g∧g<w.heap.size:=by
 rcases h.2 with ⟨hv,h0⟩|⟨g,cap,cur,hv,hg,hh,-⟩
 ·omega
 ·injection hv with h1
  exact ⟨g,h1,hg,lt_of_block hh⟩
theorem HQ.head {w:World} {base R:Nat} {A:Option Addr} {c:Nat} {l:List Int} (h:HQ w base R A c l) (hl:0<l.length):∃ g,A=some ⟨g,0,none⟩∧base<=g∧g<w.heap.size:=own_some h.row hl
theorem own_room {w:World} {base:Nat} {e:TypeId} {size n c:Nat} {A:Option Addr} {xs:List Value} (h:w.ownsRow base e size (.slice A n c) n xs):c<=maxLen:=by
 rcases h.2 with ⟨hv,hn⟩|⟨g,cap,cur,hv,hg,hh,hc,hm,-⟩
 ·injection hv with _ _ h3;subst h3;unfold maxLen;omega
 ·injection hv with _ _ h3;subst h3;exact hm
def PopOut (base R g c:Nat) (l:List Int) (x:Int) (w:World) (e:Ending) (w':World):Prop :=
 e=.returned (.iface 3 (.int .i64 x))∧HQ w' base R (some ⟨g,0,none⟩) c l∧HK w w' R (some g)
theorem hpopm_any (base R g c:Nat) (l:List Int) (x:Int) (w:World) (h:HQ w base R (some ⟨g,0,none⟩) c (l++[x])) (hn:l.length<=100000000) :
  Calls Tryz.prog 170 #[.pointer (some ⟨R,0,none⟩)] w (PopOut base R g c l x w):=by
 have hne:=h.ne
 obtain ⟨hB,hO⟩:=h
 rw [List.length_append,List.length_singleton] at hB hO hne
 have k0:w.cell? ⟨R,0,none⟩=some (.slice (some ⟨g,0,none⟩) (l.length+1) c):=hB.cell 0
 have f0:=hB.free 0
 have hcap:l.length+1<=c:=(Rd.of_own hO).cap
 have hcm:=own_room hO
 obtain ⟨a,ha,hab,c0⟩:=(Rd.of_own hO).int (k:=l.length) (by omega)
 obtain rfl:=Option.some.inj ha
 rw [show (Addr.add ⟨g,0,none⟩ l.length)=⟨g,l.length,none⟩ by rw [Addr.add_lit];simp,show (l++[x]).getD l.length 0=x by simp [List.getD_eq_getElem?_getD]] at c0
 have hgR:(⟨g,l.length,none⟩:Addr)≠⟨R,0,none⟩:=fun e=>hne (by injection e with e1;rw [e1];rfl)
 have HB:=hd_ hB
 have HO:=hd_ hO
 have HNE:=hd_ hne
 have hl0:(l.length:Int)<9223372036854775807:=by omega
 unfold maxLen at hcm
 clear hB hO hne ha
 go_enter Tryz.func170,Tryz.ntmps170
 go_wp2_with fail
 go_ret
 refine ⟨rfl,⟨?_,?_⟩,HK.set w R 0 _ _⟩
 ·have:=HB.out.put 0 (.slice (some ⟨g,0,none⟩) l.length c)
  simpa using this
 ·have h1:=own_cut (m:=l.length) HO.out (by omega)
  have e:(ints (l++[x])).take l.length=ints l:=by simp [ints]
  rw [e] at h1
  exact ownsRow_setCell_other h1 (a:=⟨R,0,none⟩) HNE.out _
theorem m_push (k R:Nat) (w:World):(method (k+1) 167 (.pointer (some ⟨R,0,none⟩)) "Push").run Tryz.prog w=.ok (171,.pointer (some ⟨R,0,none⟩)) w:=by kernel_rfl
theorem m_pop (k R:Nat) (w:World):(method (k+1) 167 (.pointer (some ⟨R,0,none⟩)) "Pop").run Tryz.prog w=.ok (170,.pointer (some ⟨R,0,none⟩)) w:=by kernel_rfl
theorem m_len0 (k R:Nat) (w:World):(method (k+1) 167 (.pointer (some ⟨R,0,none⟩)) "Len").run Tryz.prog w=(do let v <- loadVar 165 ⟨R,0,none⟩;pure (167,v):Sem (FuncId × Value)).run Tryz.prog w:=by kernel_rfl
theorem m_less0 (k R:Nat) (w:World):(method (k+1) 167 (.pointer (some ⟨R,0,none⟩)) "Less").run Tryz.prog w=(do let v <- loadVar 165 ⟨R,0,none⟩;pure (168,v):Sem (FuncId × Value)).run Tryz.prog w:=by kernel_rfl
theorem m_swap0 (k R:Nat) (w:World):(method (k+1) 167 (.pointer (some ⟨R,0,none⟩)) "Swap").run Tryz.prog w=(do let v <- loadVar 165 ⟨R,0,none⟩;pure (169,v):Sem (FuncId × Value)).run Tryz.prog w:=by kernel_rfl
theorem m_len (k R:Nat) (w:World) (A:Option Addr) (n c:Nat) (h:w.cell? ⟨R,0,none⟩=some (.slice A n c)):(method (k+1) 167 (.pointer (some ⟨R,0,none⟩)) "Len").run Tryz.prog w=.ok (167,.slice A n c) w:=by
 rw [m_len0]
 go_simp
theorem m_less (k R:Nat) (w:World) (A:Option Addr) (n c:Nat) (h:w.cell? ⟨R,0,none⟩=some (.slice A n c)):(method (k+1) 167 (.pointer (some ⟨R,0,none⟩)) "Less").run Tryz.prog w=.ok (168,.slice A n c) w:=by
 rw [m_less0]
 go_simp
theorem m_swap (k R:Nat) (w:World) (A:Option Addr) (n c:Nat) (h:w.cell? ⟨R,0,none⟩=some (.slice A n c)):(method (k+1) 167 (.pointer (some ⟨R,0,none⟩)) "Swap").run Tryz.prog w=.ok (169,.slice A n c) w:=by
 rw [m_swap0]
 go_simp
end Go.Proofs.YtmkiphadkmodnaaGreat
namespace Go.Proofs.YtmkiphadkmodnaaGreat
open Go.RowKit
theorem HQ.cell {w:World} {base R:Nat} {A:Option Addr} {c:Nat} {l:List Int} (h:HQ w base R A c l):w.cell? ⟨R,0,none⟩=some (.slice A l.length c):=h.box.cell 0
theorem swapL_length (l:List Int) (i j:Nat):(swapL l i j).length=l.length:=by simp [swapL]
theorem HQ.swapped {w w':World} {base R g c:Nat} {l:List Int} {i j:Nat} {e:Ending} (h:HQ w base R (some ⟨g,0,none⟩) c l) (hs:SwapOut base g l.length c l i j w e w'):HQ w' base R (some ⟨g,0,none⟩) c (swapL l i j)∧HK w w' R (some g) :=
 ⟨h.turned (swapL_length l i j) rfl hs.2.1 hs.2.2,HK.grown hs.2.2 R⟩
theorem set_perm:∀ (l:List Int) (i j:Nat) (hi:i<l.length) (hj:j<l.length),(swapL l i j).Perm l
 | [],i,j,hi,_=>by simp at hi
 | a::l,0,0,_,_=>by simp [swapL]
 | a::l,0,j+1,_,hj=>by
  have hj':j<l.length:=by simpa using hj
  have e:swapL (a::l) 0 (j+1)=l.getD j 0::l.set j a:=by simp [swapL]
  rw [e]
  have h1:l.getD j 0=l[j]:=by rw [List.getD_eq_getElem?_getD,List.getElem?_eq_getElem hj'];rfl
  rw [h1]
  have h2:(l[j]::l.set j a).Perm (a::l):=by
   have e2:l.set j a=l.take j++a::l.drop (j+1):=List.set_eq_take_append_cons_drop .. |>.trans (by rw [if_pos hj'])
   have e3:l=l.take j++l[j]::l.drop (j+1):=by rw [List.getElem_cons_drop,List.take_append_drop]
   rw [e2]
   conv=>rhs;rw [e3]
   refine ((List.perm_middle (a:=a) (l₁:=l.take j) (l₂:=l.drop (j+1))).cons l[j]).trans ?_
   refine (List.Perm.swap a l[j] _).trans ?_
   exact ((List.perm_middle (a:=l[j]) (l₁:=l.take j) (l₂:=l.drop (j+1))).symm).cons a
  exact h2
 | a::l,i+1,0,hi,_=>by
  have hi':i<l.length:=by simpa using hi
  have h:=set_perm (a::l) 0 (i+1) (by simp) (by simpa using hi')
  have e:swapL (a::l) (i+1) 0=swapL (a::l) 0 (i+1):=by simp [swapL]
  rw [e]
  exact h
 | a::l,i+1,j+1,hi,hj=>by
  have e:swapL (a::l) (i+1) (j+1)=a::swapL l i j:=by simp [swapL]
  rw [e]
  exact (set_perm l i j (by simpa using hi) (by simpa using hj)).cons a
theorem getD_swap (l:List Int) (i j k:Nat) (hi:k≠i) (hj:k≠j):(swapL l i j).getD k 0=l.getD k 0:=by
 simp only [swapL,List.getD_eq_getElem?_getD,List.getElem?_set]
 rw [if_neg (fun e=>hj e.symm),if_neg (fun e=>hi e.symm)]
def Shuf (n:Nat) (l m:List Int):Prop:=m.length=l.length∧m.Perm l∧∀ k,n<=k->m.getD k 0=l.getD k 0
theorem Shuf.refl (n:Nat) (l:List Int):Shuf n l l:=⟨rfl,List.Perm.refl l,fun _ _=>rfl⟩
theorem Shuf.swap {n:Nat} {l m:List Int} (h:Shuf n l m) {i j:Nat} (hi:i<n) (hj:j<n) (hn:n<=l.length):Shuf n l (swapL m i j) :=
 ⟨by rw [swapL_length];exact h.1,(set_perm m i j (by rw [h.1];omega) (by rw [h.1];omega)).trans h.2.1,fun k hk=>by rw [getD_swap m i j k (by omega) (by omega)];exact h.2.2 k hk⟩
def HeapOut (base R g c n:Nat) (l:List Int) (w:World) (e:Ending) (w':World):Prop :=
 e=.returned (.tuple #[])∧∃ m,Shuf n l m∧HQ w' base R (some ⟨g,0,none⟩) c m∧HK w w' R (some g)
def DownOut (base R g c n:Nat) (l:List Int) (w:World) (e:Ending) (w':World):Prop :=
 ∃ b,e=.returned (.bool b)∧∃ m,Shuf n l m∧HQ w' base R (some ⟨g,0,none⟩) c m∧HK w w' R (some g)
theorem heapUp_any (base R g c:Nat) (l:List Int) (j:Nat) (w:World) (h:HQ w base R (some ⟨g,0,none⟩) c l) (hj:j<l.length) (hn:l.length<=1000000) :
  Calls Tryz.prog 145 #[.iface 167 (.pointer (some ⟨R,0,none⟩)),.int .i64 (j:Int)] w (HeapOut base R g c l.length l w):=by
 have H:=hd_ h
 have HJ:=hd_ hj
 obtain ⟨n,hN⟩:∃ n,l.length=n:=⟨_,rfl⟩
 rw [hN] at hj hn ⊢
 have HN:=hd_ hN
 clear h hN
 go_enter Tryz.func145,Tryz.ntmps145
 go_wp2_with fail
 go_loopw [1] (fun i wx=>∃ (k:Nat) (m:List Int),k<n∧i=.int .i64 (k:Int)∧Shuf n l m∧HQ wx base R (some ⟨g,0,none⟩) c m∧HK w wx R (some g)) (fun i _=>(intOf i).toNat)
 case atStart=>exact ⟨j,l,hj,rfl,Shuf.refl n l,H.out,HK.refl _ _ _⟩
 case round =>
  obtain ⟨k,m,hk,rfl,hS,hQ,hK⟩:=hrel
  have HS:=hd_ hS
  have HQ1:=hd_ hQ
  have HK1:=hd_ hK
  have hml:=hd_ (hS.1.trans HN.out)
  have k0:=hQ.cell
  rw [hml.out] at k0
  have hl:=fun k=>m_less k R wr _ _ _ k0
  clear hS hQ hK
  by_cases hz:k=0
  ·subst hz
   go_wp2_with fail
   go_end0
   exact ⟨rfl,m,HS.out,HQ1.out,HK1.out⟩
  ·obtain ⟨p,hp⟩:∃ p:Nat,((k:Int)-1)/2=(p:Int):=⟨((k-1)/2),by omega⟩
   have hpk:p<k:=by omega
   have hk1:1<=(k:Int):=by omega
   have hne:((p:Int)==(k:Int))=false:=by simp;omega
   have hpk':(p:Int)<(k:Int):=by omega
   go_wp2_with fail
   refine (hless_any _ n c m k p wr (by have:=Rd.of_own HQ1.out.row;rw [hml.out] at this;exact this) hk (by omega) (by omega)).mono ?_
   generalize decide (m.getD k 0<m.getD p 0)=r
   rintro e w1 ⟨rfl,q,rfl⟩
   have k1:(wr.drewN q).cell? ⟨R,0,none⟩=some (.slice (some ⟨g,0,none⟩) n c):=k0
   have hs:=fun k=>m_swap k R (wr.drewN q) _ _ _ k1
   have HQ2:=hd_ (HQ1.out.drew q)
   have HK2:=hd_ (HK1.out.drew q)
   clear hl k0 HQ1 HK1
   cases r with
   | false =>
    go_wp2_with fail
    go_end0
    exact ⟨rfl,m,HS.out,HQ2.out,HK2.out⟩
   | true =>
    go_wp2_with fail
    refine (hswap_any base g n c m p k _ (by have:=HQ2.out.row;rw [hml.out] at this;exact this) (by omega) hk (by omega)).mono ?_
    rintro e w2 hsw
    have hsw':SwapOut base g m.length c m p k (wr.drewN q) e w2:=by rw [hml.out];exact hsw
    obtain ⟨hQ3,hK3⟩:=HQ2.out.swapped hsw'
    obtain rfl:=hsw.1
    have HQ3:=hd_ hQ3
    have HK3:=hd_ (HK2.out.trans hK3)
    clear hsw hsw' hQ3 hK3 hs
    go_wp2_with fail
    go_roundw
    case rel=>exact ⟨p,swapL m p k,by omega,rfl,HS.out.swap (by omega) hk (by rw [HN.out];exact Nat.le_refl _),HQ3.out,HK3.out⟩
    case measure=>simp [intOf];omega
theorem heapDown_any (base R g c t:Nat) (l:List Int) (w:World) (h:HQ w base R (some ⟨g,0,none⟩) c l) (ht:t<=l.length) (hn:l.length<=1000000) :
  Calls Tryz.prog 146 #[.iface 167 (.pointer (some ⟨R,0,none⟩)),.int .i64 0,.int .i64 (t:Int)] w (DownOut base R g c t l w):=by
 have H:=hd_ h
 have HT:=hd_ ht
 obtain ⟨n,hN⟩:∃ n,l.length=n:=⟨_,rfl⟩
 rw [hN] at ht hn
 have HN:=hd_ hN
 clear h hN
 go_enter Tryz.func146,Tryz.ntmps146
 go_wp2_with fail
 go_loopw [7] (fun i wx=>∃ (k:Nat) (m:List Int),(k<t∨k=0)∧i=.int .i64 (k:Int)∧Shuf t l m∧HQ wx base R (some ⟨g,0,none⟩) c m∧HK w wx R (some g)) (fun i _=>t-(intOf i).toNat)
 case atStart=>exact ⟨0,l,.inr rfl,rfl,Shuf.refl t l,H.out,HK.refl _ _ _⟩
 case round =>
  obtain ⟨k,m,hk,rfl,hS,hQ,hK⟩:=hrel
  have HS:=hd_ hS
  have HQ1:=hd_ hQ
  have HK1:=hd_ hK
  have hml:=hd_ (hS.1.trans HN.out)
  have k0:=hQ.cell
  rw [hml.out] at k0
  have hk8:k<=1000000:=by omega
  have HKK:=hd_ hk
  clear hS hQ hK hk
  by_cases h1:t<=2*k+1
  ·have h1':(t:Int)<=2*(k:Int)+1:=by omega
   clear h1
   go_wp2_with fail
   go_ret
   exact ⟨_,rfl,m,HS.out,HQ1.out,HK1.out⟩
  have h1':¬ (t:Int)<=2*(k:Int)+1:=by omega
  have hkt:k<t:=by omega
  by_cases h2:2*k+2<t
  ·have h2':2*(k:Int)+1+1<(t:Int):=by omega
   have hl:=fun k=>m_less k R wr _ _ _ k0
   go_wp2_with fail
   refine (hless_any _ n c m (2*k+1+1) (2*k+1) _ (by have:=Rd.of_own HQ1.out.row;rw [hml.out] at this;exact this) (by omega) (by omega) (by omega)).mono ?_
   generalize decide (m.getD (2*k+1+1) 0<m.getD (2*k+1) 0)=r1
   rintro e w1 ⟨rfl,q1,hw1⟩
   have HQ2:=hd_ (show HQ w1 base R (some ⟨g,0,none⟩) c m by rw [hw1];exact HQ1.out.drew q1)
   have HK2:=hd_ (show HK w w1 R (some g) by rw [hw1];exact HK1.out.drew q1)
   have k0:=HQ2.out.cell
   rw [hml.out] at k0
   clear hl hw1
   cases r1 with
   | false =>
    have kk1:(w1).cell? ⟨R,0,none⟩=some (.slice (some ⟨g,0,none⟩) n c):=k0
    have hl:=fun k=>m_less k R (w1) _ _ _ kk1
    go_wp2_with fail
    refine (hless_any _ n c m (2*k+1) k _ (by have:=Rd.of_own HQ2.out.row;rw [hml.out] at this;exact this) (by omega) (by omega) (by omega)).mono ?_
    generalize decide (m.getD (2*k+1) 0<m.getD k 0)=r2
    rintro e w3 ⟨rfl,q2,hw3⟩
    have HQ3:=hd_ (show HQ w3 base R (some ⟨g,0,none⟩) c m by rw [hw3];exact HQ2.out.drew q2)
    have HK3:=hd_ (show HK w w3 R (some g) by rw [hw3];exact HK2.out.drew q2)
    have kk2:=HQ3.out.cell
    rw [hml.out] at kk2
    have hs:=fun k=>m_swap k R w3 _ _ _ kk2
    clear hl kk1 hw3
    cases r2 with
    | false =>
     go_wp2_with fail
     go_ret
     exact ⟨_,rfl,m,HS.out,HQ3.out,HK3.out⟩
    | true =>
     go_wp2_with fail
     refine (hswap_any base g n c m k (2*k+1) _ (by have:=HQ3.out.row;rw [hml.out] at this;exact this) (by omega) (by omega) (by omega)).mono ?_
     rintro e w4 hsw
     have hsw':SwapOut base g m.length c m k (2*k+1) w3 e w4:=by rw [hml.out];exact hsw
     obtain ⟨hQ5,hK5⟩:=HQ3.out.swapped hsw'
     obtain rfl:=hsw.1
     have HQ5:=hd_ hQ5
     have HK5:=hd_ (HK3.out.trans hK5)
     clear hsw hsw' hQ5 hK5 hs
     go_wp2_with fail
     go_roundw
     case rel=>exact ⟨2*k+1,swapL m k (2*k+1),.inl (by omega),by go_num,HS.out.swap (by omega) (by omega) HT.out,HQ5.out,HK5.out⟩
     case measure=>simp [intOf];omega
   | true =>
    have kk1:(w1).cell? ⟨R,0,none⟩=some (.slice (some ⟨g,0,none⟩) n c):=k0
    have hl:=fun k=>m_less k R (w1) _ _ _ kk1
    go_wp2_with fail
    refine (hless_any _ n c m (2*k+1+1) k _ (by have:=Rd.of_own HQ2.out.row;rw [hml.out] at this;exact this) (by omega) (by omega) (by omega)).mono ?_
    generalize decide (m.getD (2*k+1+1) 0<m.getD k 0)=r2
    rintro e w3 ⟨rfl,q2,hw3⟩
    have HQ3:=hd_ (show HQ w3 base R (some ⟨g,0,none⟩) c m by rw [hw3];exact HQ2.out.drew q2)
    have HK3:=hd_ (show HK w w3 R (some g) by rw [hw3];exact HK2.out.drew q2)
    have kk2:=HQ3.out.cell
    rw [hml.out] at kk2
    have hs:=fun k=>m_swap k R w3 _ _ _ kk2
    clear hl kk1 hw3
    cases r2 with
    | false =>
     go_wp2_with fail
     go_ret
     exact ⟨_,rfl,m,HS.out,HQ3.out,HK3.out⟩
    | true =>
     go_wp2_with fail
     refine (hswap_any base g n c m k (2*k+1+1) _ (by have:=HQ3.out.row;rw [hml.out] at this;exact this) (by omega) (by omega) (by omega)).mono ?_
     rintro e w4 hsw
     have hsw':SwapOut base g m.length c m k (2*k+1+1) w3 e w4:=by rw [hml.out];exact hsw
     obtain ⟨hQ5,hK5⟩:=HQ3.out.swapped hsw'
     obtain rfl:=hsw.1
     have HQ5:=hd_ hQ5
     have HK5:=hd_ (HK3.out.trans hK5)
     clear hsw hsw' hQ5 hK5 hs
     go_wp2_with fail
     go_roundw
     case rel=>exact ⟨2*k+1+1,swapL m k (2*k+1+1),.inl (by omega),by go_num,HS.out.swap (by omega) (by omega) HT.out,HQ5.out,HK5.out⟩
     case measure=>simp [intOf];omega
  ·have h2':¬ 2*(k:Int)+1+1<(t:Int):=by omega
   have h2'':decide (2*(k:Int)+1+1<(t:Int))=false:=decide_eq_false h2'
   have kk1:(wr).cell? ⟨R,0,none⟩=some (.slice (some ⟨g,0,none⟩) n c):=k0
   have hl:=fun k=>m_less k R (wr) _ _ _ kk1
   go_wp2_with fail
   refine (hless_any _ n c m (2*k+1) k _ (by have:=Rd.of_own HQ1.out.row;rw [hml.out] at this;exact this) (by omega) (by omega) (by omega)).mono ?_
   generalize decide (m.getD (2*k+1) 0<m.getD k 0)=r2
   rintro e w3 ⟨rfl,q2,hw3⟩
   have HQ3:=hd_ (show HQ w3 base R (some ⟨g,0,none⟩) c m by rw [hw3];exact HQ1.out.drew q2)
   have HK3:=hd_ (show HK w w3 R (some g) by rw [hw3];exact HK1.out.drew q2)
   have kk2:=HQ3.out.cell
   rw [hml.out] at kk2
   have hs:=fun k=>m_swap k R w3 _ _ _ kk2
   clear hl kk1 hw3
   cases r2 with
   | false =>
    go_wp2_with fail
    go_ret
    exact ⟨_,rfl,m,HS.out,HQ3.out,HK3.out⟩
   | true =>
    go_wp2_with fail
    refine (hswap_any base g n c m k (2*k+1) _ (by have:=HQ3.out.row;rw [hml.out] at this;exact this) (by omega) (by omega) (by omega)).mono ?_
    rintro e w4 hsw
    have hsw':SwapOut base g m.length c m k (2*k+1) w3 e w4:=by rw [hml.out];exact hsw
    obtain ⟨hQ5,hK5⟩:=HQ3.out.swapped hsw'
    obtain rfl:=hsw.1
    have HQ5:=hd_ hQ5
    have HK5:=hd_ (HK3.out.trans hK5)
    clear hsw hsw' hQ5 hK5 hs
    go_wp2_with fail
    go_roundw
    case rel=>exact ⟨2*k+1,swapL m k (2*k+1),.inl (by omega),by go_num,HS.out.swap (by omega) (by omega) HT.out,HQ5.out,HK5.out⟩
    case measure=>simp [intOf];omega
def HPushOut (base R:Nat) (A:Option Addr) (c:Nat) (l:List Int) (x:Int) (w:World) (e:Ending) (w':World):Prop :=
 e=.returned (.tuple #[])∧∃ A' c' m,m.Perm (l++[x])∧HQ w' base R A' c' m∧HK w w' R (Value.slice A l.length c).ownBlock∧((Value.slice A' m.length c').ownBlock=(Value.slice A l.length c).ownBlock∨∀ g,(Value.slice A' m.length c').ownBlock=some g->w.heap.size<=g)
theorem heapPush_any (base R:Nat) (A:Option Addr) (c:Nat) (l:List Int) (x:Int) (w:World) (h:HQ w base R A c l) (hn:l.length<=100000) (hb:base<=w.heap.size) :
  Calls Tryz.prog 132 #[.iface 167 (.pointer (some ⟨R,0,none⟩)),.iface 3 (.int .i64 x)] w (HPushOut base R A c l x w):=by
 have H:=hd_ h
 have hm:=fun k w=>m_push k R w
 clear h
 go_enter Tryz.func132,Tryz.ntmps132
 go_wp2_with fail
 refine (hpush_any base R 0 _ _ _ _ _ H.out (by omega) hb).mono ?_
 rintro e w1 ⟨rfl,A1,c1,H1,K1,q1⟩
 obtain ⟨g,rfl,hg1,hg2⟩:=H1.head (by simp)
 have k0:=H1.cell
 have hll:(l++[x]).length=l.length+1:=by simp
 rw [hll] at k0
 have hl:=fun k=>m_len k R w1 _ _ _ k0
 have HH1:=hd_ H1
 have HK1:=hd_ K1
 have Q1:=hd_ q1
 have HLL:=hd_ hll
 clear H1 K1 q1 hll
 go_wp2_with fail
 refine (hlen_any _ _ _ _ (by omega)).mono ?_
 rintro e w2 ⟨rfl,rfl⟩
 go_wp2_with fail
 refine (heapUp_any base R g c1 (l++[x]) l.length _ HH1.out (by rw [HLL.out];omega) (by rw [HLL.out];omega)).mono ?_
 rintro e w3 ⟨rfl,m,hS,hQ,hK⟩
 have HS:=hd_ hS
 have HQ3:=hd_ hQ
 have HK3:=hd_ hK
 clear hS hQ hK
 go_wp2_with fail
 go_end0
 refine ⟨rfl,some ⟨g,0,none⟩,c1,m,HS.out.2.1,HQ3.out,HK1.out.trans_new HK3.out ?_,?_⟩
 ·exact Q1.out
 ·exact Q1.out
def HPopOut (base R g c:Nat) (l:List Int) (w:World) (e:Ending) (w':World):Prop :=
 ∃ x m,e=.returned (.iface 3 (.int .i64 x))∧(x::m).Perm l∧HQ w' base R (some ⟨g,0,none⟩) c m∧HK w w' R (some g)
theorem heapPop_any (base R g c n:Nat) (l:List Int) (w:World) (h:HQ w base R (some ⟨g,0,none⟩) c l) (hl:l.length=n+1) (hn:n<=100000) :
  Calls Tryz.prog 133 #[.iface 167 (.pointer (some ⟨R,0,none⟩))] w (HPopOut base R g c l w):=by
 have H:=hd_ h
 have k0:=h.cell
 rw [hl] at k0
 have hm:=fun k=>m_len k R w _ _ _ k0
 have hs:=fun k=>m_swap k R w _ _ _ k0
 have hp:=fun k w=>m_pop k R w
 have HL:=hd_ hl
 clear h hl
 go_enter Tryz.func133,Tryz.ntmps133
 go_wp2_with fail
 refine (hlen_any _ _ _ _ (by omega)).mono ?_
 rintro e w2 ⟨rfl,rfl⟩
 go_wp2_with fail
 refine (hswap_any base g (n+1) c l 0 n _ (by have:=H.out.row;rw [HL.out] at this;exact this) (by omega) (by omega) (by omega)).mono ?_
 rintro e w2 hsw
 have hsw':SwapOut base g l.length c l 0 n w e w2:=by rw [HL.out];exact hsw
 obtain ⟨hQ2,hK2⟩:=H.out.swapped hsw'
 obtain rfl:=hsw.1
 have HQ2:=hd_ hQ2
 have HK2:=hd_ hK2
 clear hsw hsw' hQ2 hK2 hs hm
 go_wp2_with fail
 refine (heapDown_any base R g c n (swapL l 0 n) _ HQ2.out (by rw [swapL_length,HL.out];omega) (by rw [swapL_length,HL.out];omega)).mono ?_
 rintro e w3 ⟨b,rfl,m,hS,hQ,hK⟩
 obtain ⟨m3,x,rfl⟩:∃ m3 x,m=m3++[x]:=by
  rcases List.eq_nil_or_concat m with h|⟨m3,x,h⟩
  ·have:=hS.1
   rw [h,swapL_length,HL.out] at this
   cases this
  ·exact ⟨m3,x,by rw [h];simp⟩
 have hlen:m3.length=n:=by have:=hS.1;rw [swapL_length,HL.out] at this;simpa using this
 have HS:=hd_ hS
 have HQ3:=hd_ hQ
 have HK3:=hd_ (HK2.out.trans hK)
 have HLEN:=hd_ hlen
 clear hS hQ hK hlen
 go_wp2_with fail
 refine (hpopm_any base R g c m3 x _ HQ3.out (by rw [HLEN.out];omega)).mono ?_
 rintro e w4 ⟨rfl,hQ,hK⟩
 have HQ4:=hd_ hQ
 have HK4:=hd_ (HK3.out.trans hK)
 clear hQ hK
 go_wp2_with fail
 go_ret
 refine ⟨x,m3,rfl,?_,HQ4.out,HK4.out⟩
 have h1:=HS.out.2.1
 have h2:=set_perm l 0 n (by rw [HL.out];omega) (by rw [HL.out];omega)
 have h3:(x::m3).Perm (m3++[x]):=by have:=List.perm_append_comm (l₁:=[x]) (l₂:=m3);simpa using this
 exact h3.trans (h1.trans h2)
end Go.Proofs.YtmkiphadkmodnaaGreat
