/- BfM, 2 -/
import Derived.OneCell
import Derived.Laws.OwnMore
import Derived.Laws.Rows
import Derived.Laws.AppendOwnNone
import Derived.BigQuiet
import Derived.Deep.QuietTactic
import Derived.Test.YtmkiphadkmodnaaGreatZBfM1
import Derived.Test.YtmkiphadkmodnaaGreatZBfM0
set_option linter.all false
set_option maxRecDepth 100000
set_option maxHeartbeats 8000000
namespace Go.Proofs.YtmkiphadkmodnaaGreat
open Go.RowKit
def Blk (w:World) (g:Nat) (t:TypeId) (cs:Array Value):Prop:=w.heap[g]? = some (.cells cs t (0,0))
section
variable {w w' : World} {g : Nat} {t : TypeId} {cs : Array Value}
theorem Blk.lt (h:Blk w g t cs):g<w.heap.size:=lt_of_block h
theorem Blk.cell (h:Blk w g t cs) (i:Nat):w.cell? ⟨g,i,none⟩=cs[i]?:=cell_of_row w g i cs t (0,0) h
theorem Blk.free (h:Blk w g t cs) (i:Nat):w.frozen? ⟨g,i,none⟩=false:=frozen_of_row w g i cs t h
theorem Blk.made (w:World) (t:TypeId) (cs:Array Value):Blk (w.alloc (.cells cs t)) w.heap.size t cs:=heap_alloc_new w _
theorem Blk.alloc (h:Blk w g t cs) (o:Obj):Blk (w.alloc o) g t cs:=(Below.heap_alloc w o g h.lt).trans h
theorem Blk.put (h:Blk w g t cs) (i:Nat) (u:Value):Blk (w.setCell ⟨g,i,none⟩ u) g t (cs.setIfInBounds i u):=by
 unfold Blk at h ⊢
 simp [World.setCell,Array.getElem?_modify,h]
theorem Blk.apart (h:Blk w g t cs) {p:Addr} (hp:g≠p.block) (u:Value):Blk (w.setCell p u) g t cs:=(Below.heap_setCell w p u g hp).trans h
theorem Blk.below {B:Nat} (h:Blk w g t cs) (hb:Below B w w') (hg:g<B):Blk w' g t cs:=(hb.block g hg).trans h
theorem Blk.keep (h:Blk w g t cs) (hb:Below w.heap.size w w'):Blk w' g t cs:=h.below hb h.lt
theorem Blk.grown {row:Option Nat} (h:Blk w g t cs) (hb:w.grownBy w' row) (hg:some g≠row):Blk w' g t cs:=(hb.block g h.lt hg).trans h
theorem Blk.other {g':Nat} {t':TypeId} {cs':Array Value} (h:Blk w g t cs) (h':Blk w g' t' cs') (hne:t≠t'):g≠g':=by
 rintro rfl
 unfold Blk at h h'
 rw [h] at h'
 injection h' with h'
 injection h' with _ ht
 exact hne ht
theorem own_other {base:Nat} {e:TypeId} {size n:Nat} {v:Value} {xs:List Value} (h:w.ownsRow base e size v n xs) (hg:Blk w g t cs) (hne:e≠t):v.ownBlock≠some g:=by
 rcases h.2 with ⟨rfl,_⟩|⟨g',cap,cur,rfl,_,hh,_⟩
 ·simp [Value.ownBlock]
 ·intro he
  have hgg:g'=g:=by simpa [Value.ownBlock] using he
  subst hgg
  exact Blk.other (t:=e) hh hg hne rfl
theorem own_slice {base:Nat} {e:TypeId} {size n:Nat} {v:Value} {xs:List Value} (h:w.ownsRow base e size v n xs):∃ A c,v=.slice A n c:=by
 rcases h.2 with ⟨rfl,rfl⟩|⟨g',cap,cur,rfl,_⟩
 ·exact ⟨_,_,rfl⟩
 ·exact ⟨_,_,rfl⟩
theorem own_base {base:Nat} {e:TypeId} {size n k:Nat} {v:Value} {xs:List Value} (h:w.ownsRow base e size v n xs) (hk:v.ownBlock=some k):base<=k:=by
 rcases h.2 with ⟨rfl,_⟩|⟨g',cap,cur,rfl,hg,_⟩
 ·simp [Value.ownBlock] at hk
 ·have hgg:g'=k:=by simpa [Value.ownBlock] using hk
  omega
theorem own_keep {base:Nat} {e:TypeId} {size n:Nat} {v:Value} {xs:List Value} (h:w.ownsRow base e size v n xs) (hb:Below w.heap.size w w'):w'.ownsRow base e size v n xs:=by
 rcases h with ⟨h1,h2⟩
 refine ⟨h1,?_⟩
 rcases h2 with h2|⟨g',cap,cur,hv,hg,hh,hr⟩
 ·exact .inl h2
 ·exact .inr ⟨g',cap,cur,hv,hg,(hb.block g' (lt_of_block hh)).trans hh,hr⟩
end
def pc (xs:List (Int × Int)):List Value:=xs.flatMap fun p=>[.int .i64 p.1,.int .i64 p.2]
theorem pc_append (xs ys:List (Int × Int)):pc (xs++ys)=pc xs++pc ys:=by simp [pc]
structure EW (w0 w:World) (B A J:Nat) (W H T:Int) (xs:List (Int × Int)):Prop where
 below:Below w0.heap.size w0 w
 hB:w0.heap.size<=B
 hA:w0.heap.size<=A
 hJ:w0.heap.size<=J
 out:∃ v,Blk w B 57 #[v]∧w.ownsRow w0.heap.size 103 2 v xs.length (pc xs)
 arch:Blk w A 23 #[.int .i64 W,.int .i64 H,.int .i64 T]
 join:Blk w J 88 #[.func (.func 65) #[] #[.pointer (some ⟨B,0,none⟩)]]
theorem EW.keep {w0 w w':World} {B A J:Nat} {W H T:Int} {xs:List (Int × Int)} (h:EW w0 w B A J W H T xs) (hb:Below w.heap.size w w'):EW w0 w' B A J W H T xs:=by
 obtain ⟨v,h1,h2⟩:=h.out
 exact ⟨bt_ h.below hb,h.hB,h.hA,h.hJ,⟨v,h1.keep hb,own_keep h2 hb⟩,h.arch.keep hb,h.join.keep hb⟩
def Keeps (w w':World):Prop:=w.heap.size<=w'.heap.size∧∀ g t cs,Blk w g t cs->t≠57->t≠103->Blk w' g t cs
theorem Keeps.refl (w:World):Keeps w w:=⟨Nat.le_refl _,fun _ _ _ h _ _=>h⟩
theorem Keeps.trans {a b c:World} (h:Keeps a b) (k:Keeps b c):Keeps a c:=⟨Nat.le_trans h.1 k.1,fun g t cs hb h1 h2=>k.2 g t cs (h.2 g t cs hb h1 h2) h1 h2⟩
theorem Keeps.of_below {w w':World} (h:Below w.heap.size w w'):Keeps w w':=⟨h.size,fun _ _ _ hb _ _=>hb.keep h⟩
theorem pair_info:(Tryz.prog.info? 103).map (fun i=>(i.zero,i.size,i.bytes))=some (some (.agg #[.int .i64 0,.int .i64 0]),2,16):=by kernel_rfl
def lo (m n:Int):Int:=if n<m then n else m
def hi (m n:Int):Int:=if n > m then n else m
theorem join_any (w0 w:World) (B A J:Nat) (W H T m n:Int) (xs:List (Int × Int)) (hx:EW w0 w B A J W H T xs) (hlen:xs.length<=100000000) :
  Calls Tryz.prog 65 #[.int .i64 m,.int .i64 n,.pointer (some ⟨B,0,none⟩)] w fun e w'=>e=.returned (.tuple #[])∧EW w0 w' B A J W H T (xs++[(lo m n,hi m n)])∧Keeps w w':=by
 obtain ⟨v,hv1,hv2⟩:=hx.out
 obtain ⟨AA,c,rfl⟩:=own_slice hv2
 obtain ⟨i0,hi0,hz0,hz1,hz2⟩:=info_parts pair_info
 obtain ⟨a,ha⟩:∃ a,(if n<m then n else m)=a:=⟨_,rfl⟩
 obtain ⟨b,hb⟩:∃ b,(if n > m then n else m)=b:=⟨_,rfl⟩
 have hcell:w.cell? ⟨B,0,none⟩=some (.slice AA xs.length c):=by rw [hv1.cell 0];rfl
 have hfree:=hv1.free 0
 have HI:=hd_ hi0
 have HZ0:=hd_ hz0
 have HZ1:=hd_ hz1
 have HZ2:=hd_ hz2
 have HX:=hd_ hx
 have HV1:=hd_ hv1
 have HV2:=hd_ hv2
 have hlt:B<w.heap.size:=hv1.lt
 have hbase:w0.heap.size<=w.heap.size:=hx.below.size
 clear hi0 hz0 hz1 hz2 hv1 hv2 hx
 go_enter Tryz.func65,Tryz.ntmps65
 go_wp2_with (at_builtin;refine wpList_append_own _ rfl (.tmp 5) (.tmp 13) 57 rfl w0.heap.size 103 i0 (.agg #[.int .i64 0,.int .i64 0]) 2 16 Tryz.underlying57 HI.out HZ0.out HZ1.out HZ2.out rfl (by decide) (.slice AA xs.length c) xs.length (pc xs) rfl (HV2.out.alloc _) ⟨w.heap.size,0,none⟩ 1 1 [.int .i64 a,.int .i64 b] rfl rfl ?c1 ?c2 ?c3 ?c4 ?c5 ?_)
 case c1 =>
  intro j u hj
  rcases j with _|_|j
  ·simp at hj;subst hj;go_simp
  ·simp at hj;subst hj;go_simp
  ·simp at hj
 case c2 =>
  intro u hu
  simp at hu
  rcases hu with rfl|rfl <;> rfl
 case c3=>unfold maxLen;omega
 case c4=>omega
 case c5=>simp;omega
 intro v' w1 hown1 hg1 hnil
 have HO:=hd_ hown1
 have HG:=hd_ hg1
 have hb1:=(HV1.out.alloc _).grown hg1 (Ne.symm (own_other HV2.out HV1.out (by decide)))
 have hc1:w1.cell? ⟨B,0,none⟩=some (.slice AA xs.length c):=by rw [hb1.cell 0];rfl
 have hf1:=hb1.free 0
 have HB1:=hd_ hb1
 obtain ⟨A2,c2,hv2⟩:=own_slice hown1
 clear hg1 hb1 hown1 hnil
 subst hv2
 go_wp2
 go_end0
 refine ⟨rfl,?_⟩
 have hx:=HX.out
 have hown2:(w1.setCell ⟨B,0,none⟩ (.slice A2 (xs.length+1) c2)).ownsRow w0.heap.size 103 2 (.slice A2 (xs.length+1) c2) (xs++[(lo m n,hi m n)]).length (pc (xs++[(lo m n,hi m n)])):=by
  have h:=ownsRow_setCell_other HO.out (a:=⟨B,0,none⟩) (own_other HO.out HB1.out (by decide)) (.slice A2 (xs.length+1) c2)
  have e1:(xs++[(lo m n,hi m n)]).length=xs.length+1:=by simp
  have e2:pc (xs++[(lo m n,hi m n)])=pc xs++[.int .i64 a,.int .i64 b]:=by rw [pc_append];simp only [pc,List.flatMap_cons,List.flatMap_nil,List.append_nil,lo,hi,ha,hb]
  rw [e1,e2]
  exact h
 refine ⟨⟨((hx.below.alloc hbase _).grown HG.out (by simp;omega) (fun k hk=>own_base HV2.out hk)).setCell (p:=⟨B,0,none⟩) hx.hB _,hx.hB,hx.hA,hx.hJ,⟨_,HB1.out.put 0 _,hown2⟩,?_,?_⟩,?_,?_⟩
 ·exact ((hx.arch.alloc _).grown HG.out (Ne.symm (own_other HV2.out hx.arch (by decide)))).apart (Blk.other hx.arch HV1.out (by decide)) _
 ·exact ((hx.join.alloc _).grown HG.out (Ne.symm (own_other HV2.out hx.join (by decide)))).apart (Blk.other hx.join HV1.out (by decide)) _
 ·have:=HG.out.size
  simp [World.setCell] at this ⊢
  omega
 ·exact fun g t cs hb h40 h43=>((hb.alloc _).grown HG.out (Ne.symm (own_other HV2.out hb (Ne.symm h43)))).apart (Blk.other hb HV1.out h40) _
end Go.Proofs.YtmkiphadkmodnaaGreat
namespace Go.Proofs.YtmkiphadkmodnaaGreat
open Go.RowKit
theorem int_infoA:(Tryz.prog.info? 3).map (fun i=>(i.zero,i.size,i.bytes))=some (some (.int .i64 0),1,8):=by kernel_rfl
section
variable {ops : Array Oper} {rest : List Oper} {o : Oper} {a : Act} {Q : Exit → Act → World → Prop}
theorem wpList_app_int (hgd:o.guard=none) (s x:Operand) (ho:o.op=.call { callee:=.builtin .append,args:=#[s,x],argTypes:=#[25,25] })
  {W:World} (base:Nat) (A:Option Addr) (k c:Nat) (L:List Int) (hs:a.eval s=.slice A k c) (O:W.ownsRow base 3 1 (.slice A k c) k (ints L)) (z:Int) (hx:a.eval x=.slice (some ⟨W.heap.size,0,none⟩) 1 1)
  (hk:k<=100000000) (hb:base<=W.heap.size)
  (h:∀ A' c' w',w'.ownsRow base 3 1 (.slice A' (k+1) c') (k+1) (ints (L++[z]))->(W.alloc (.cells #[.int .i64 z] 3)).grownBy w' (Value.slice A k c).ownBlock->wpList Tryz.prog ops Q rest (a.put o.dst (.slice A' (k+1) c')) w') :
  wpList Tryz.prog ops Q (o::rest) a (W.alloc (.cells #[.int .i64 z] 3)):=by
 obtain ⟨i0,hi0,hz0,hz1,hz2⟩:=info_parts int_infoA
 refine wpList_append_own _ hgd s x 25 ho base 3 i0 (.int .i64 0) 1 8 Tryz.underlying25 hi0 hz0 hz1 hz2 rfl (by decide) (.slice A k c) k (ints L) hs (O.alloc _) ⟨W.heap.size,0,none⟩ 1 1 [.int .i64 z] hx rfl ?_ ?_ ?_ ?_ ?_ ?_
 ·intro j u hj
  rcases j with _|j
  ·simp at hj;subst hj;exact World.cell?_alloc_at _ _ _ _ rfl
  ·simp at hj
 ·intro u hu
  simp at hu
  subst hu
  rfl
 ·unfold maxLen;omega
 ·omega
 ·simp;omega
 ·intro v' w' hown hg _
  obtain ⟨A',c',rfl⟩:=own_slice hown
  refine h A' c' w' ?_ hg
  have e:ints (L++[z])=ints L++[.int .i64 z]:=by simp [ints]
  rw [e]
  exact hown
theorem wpList_app_pair (hgd:o.guard=none) (s x:Operand) (ho:o.op=.call { callee:=.builtin .append,args:=#[s,x],argTypes:=#[57,57] })
  {W:World} (base:Nat) (A:Option Addr) (k c:Nat) (L:List (Int × Int)) (hs:a.eval s=.slice A k c) (O:W.ownsRow base 103 2 (.slice A k c) k (pc L)) (p q:Int) (hx:a.eval x=.slice (some ⟨W.heap.size,0,none⟩) 1 1)
  (hk:k<=100000000) (hb:base<=W.heap.size)
  (h:∀ A' c' w',w'.ownsRow base 103 2 (.slice A' (k+1) c') (k+1) (pc (L++[(p,q)]))->(W.alloc (.cells #[.int .i64 p,.int .i64 q] 103)).grownBy w' (Value.slice A k c).ownBlock->wpList Tryz.prog ops Q rest (a.put o.dst (.slice A' (k+1) c')) w') :
  wpList Tryz.prog ops Q (o::rest) a (W.alloc (.cells #[.int .i64 p,.int .i64 q] 103)):=by
 obtain ⟨i0,hi0,hz0,hz1,hz2⟩:=info_parts pair_info
 refine wpList_append_own _ hgd s x 57 ho base 103 i0 (.agg #[.int .i64 0,.int .i64 0]) 2 16 Tryz.underlying57 hi0 hz0 hz1 hz2 rfl (by decide) (.slice A k c) k (pc L) hs (O.alloc _) ⟨W.heap.size,0,none⟩ 1 1 [.int .i64 p,.int .i64 q] hx rfl ?_ ?_ ?_ ?_ ?_ ?_
 ·intro j u hj
  rcases j with _|_|j
  ·simp at hj;subst hj;exact World.cell?_alloc_at _ _ _ _ rfl
  ·simp at hj;subst hj;exact World.cell?_alloc_at _ _ _ _ rfl
  ·simp at hj
 ·intro u hu
  simp at hu
  rcases hu with rfl|rfl <;> rfl
 ·unfold maxLen;omega
 ·omega
 ·simp;omega
 ·intro v' w' hown hg _
  obtain ⟨A',c',rfl⟩:=own_slice hown
  refine h A' c' w' ?_ hg
  rw [pc_append]
  exact hown
theorem wpList_app_ints (hgd:o.guard=none) (s x:Operand) (ho:o.op=.call { callee:=.builtin .append,args:=#[s,x],argTypes:=#[25,25] })
  {W:World} (base:Nat) (A:Option Addr) (k c:Nat) (L:List Int) (hs:a.eval s=.slice A k c) (O:W.ownsRow base 3 1 (.slice A k c) k (ints L)) (A2:Option Addr) (n d:Nat) (M:List Int) (hx:a.eval x=.slice A2 n d) (hr:Rd W 1 A2 n d (ints M))
  (hk:k+n<=100000000) (hb:base<=W.heap.size)
  (h:∀ A' c' w',w'.ownsRow base 3 1 (.slice A' (k+n) c') (k+n) (ints (L++M))->W.grownBy w' (Value.slice A k c).ownBlock->wpList Tryz.prog ops Q rest (a.put o.dst (.slice A' (k+n) c')) w') :
  wpList Tryz.prog ops Q (o::rest) a W:=by
 obtain ⟨i0,hi0,hz0,hz1,hz2⟩:=info_parts int_infoA
 cases A2 with
 | none =>
  have hd:d=0:=hr.nil rfl
  have hn:n=0:=by have:=hr.cap;omega
  subst hd hn
  have hM:M=[]:=List.eq_nil_of_length_eq_zero (by have:=hr.len;rw [ints_length] at this;omega)
  subst hM
  refine wpList_append_own_none hgd s x 25 ho base 3 i0 1 Tryz.underlying25 hi0 (.slice A k c) k (ints L) hs O hx ?_
  exact h A c W (by simpa using O) (World.grownBy.refl W _)
 | some ad =>
  refine wpList_append_own _ hgd s x 25 ho base 3 i0 (.int .i64 0) 1 8 Tryz.underlying25 hi0 hz0 hz1 hz2 rfl (by decide) (.slice A k c) k (ints L) hs O ad n d (ints M) hx (by have:=hr.len;exact this) ?_ ?_ ?_ ?_ ?_ ?_
  ·intro j u hj
   obtain ⟨a',e,-,hc⟩:=hr.read j u hj
   obtain rfl:=Option.some.inj e
   exact hc
  ·intro u hu
   obtain ⟨z,-,rfl⟩:=List.mem_map.1 hu
   rfl
  ·unfold maxLen;omega
  ·omega
  ·exact hb
  ·intro v' w' hown hg _
   obtain ⟨A',c',rfl⟩:=own_slice hown
   refine h A' c' w' ?_ hg
   rw [ints_append]
   exact hown
end
end Go.Proofs.YtmkiphadkmodnaaGreat
namespace Go.Proofs.YtmkiphadkmodnaaGreat
open Go.RowKit
def meetTo (W H T n:Int) (c:Nat) (x y:Int):Nat->List (Int × Int)
 | 0=>[]
 | k+1=>meetTo W H T n c x y k++(if nodeE W H T c x y (k:Int)=0 then [(lo n (nodeN W H T c x y (k:Int)),hi n (nodeN W H T c x y (k:Int)))] else [])
theorem meetTo_len (W H T n:Int) (c:Nat) (x y:Int) (k:Nat):(meetTo W H T n c x y k).length<=k:=by
 induction k with
 | zero=>simp [meetTo]
 | succ k ih =>
  simp only [meetTo,List.length_append]
  split <;> simp <;> omega
theorem nodeE_01 (W H T:Int) (c:Nat) (x y t:Int):nodeE W H T c x y t=0∨nodeE W H T c x y t=1:=by
 unfold nodeE;split <;> simp
theorem meet_any (w0 w:World) (B A J:Nat) (W H T n x y:Int) (c:Nat) (xs:List (Int × Int)) (hx:EW w0 w B A J W H T xs) (hok:okA W H T) (hc:c<5) (hlen:xs.length<=90000000) :
  Calls Tryz.prog 66 #[.int .i64 n,.agg #[.int .i64 ((c:Int)+1),.int .i64 x,.int .i64 y],.pointer (some ⟨A,0,none⟩),.pointer (some ⟨J,0,none⟩)] w fun e w'=>e=.returned (.tuple #[])∧EW w0 w' B A J W H T (xs++meetTo W H T n c x y T.toNat)∧Keeps w w':=by
 have hh:=hok
 unfold okA at hh
 obtain ⟨N,rfl⟩:∃ N:Nat,T=(N:Int):=⟨T.toNat,by omega⟩
 have hN:N<=16:=by omega
 have HOK:=hd_ hok
 have HX:=hd_ (hx.keep (bn_ w (.cells #[.int .i64 ((c:Int)+1),.int .i64 x,.int .i64 y] 109)))
 have HP:=hd_ (Blk.made w 109 #[.int .i64 ((c:Int)+1),.int .i64 x,.int .i64 y])
 have k0:w.cell? ⟨A,0,none⟩=some (.int .i64 W):=hx.arch.cell 0
 have k1:w.cell? ⟨A,1,none⟩=some (.int .i64 H):=hx.arch.cell 1
 have k2:w.cell? ⟨A,2,none⟩=some (.int .i64 (N:Int)):=hx.arch.cell 2
 have hA:A<w.heap.size:=hx.arch.lt
 clear hx hok hh
 go_enter Tryz.func66,Tryz.ntmps66
 go_wp2
 go_loopw [6,7,8,11] (fun _ _ _ i wr=>∃ k:Nat,k<=N∧i=.int .i64 (k:Int)∧EW w0 wr B A J W H (N:Int) (xs++meetTo W H (N:Int) n c x y k)∧Keeps (w.alloc (.cells #[.int .i64 ((c:Int)+1),.int .i64 x,.int .i64 y] 109)) wr) (fun _ _ _ i _=>N-(intOf i).toNat)
 case atStart=>exact ⟨0,by omega,rfl,by simpa [meetTo] using HX.out,Keeps.refl _⟩
 case round =>
  obtain ⟨k,hk,rfl,hw,hkp⟩:=hrel
  clear k0 k1 k2 hA
  by_cases hlt:k<N
  ·have a0:wr.cell? ⟨A,0,none⟩=some (.int .i64 W):=hw.arch.cell 0
   have a1:wr.cell? ⟨A,1,none⟩=some (.int .i64 H):=hw.arch.cell 1
   have a2:wr.cell? ⟨A,2,none⟩=some (.int .i64 (N:Int)):=hw.arch.cell 2
   have hp:=hkp.2 _ _ _ HP.out (by decide) (by decide)
   have p0:wr.cell? ⟨w.heap.size,0,none⟩=some (.int .i64 ((c:Int)+1)):=hp.cell 0
   have p1:wr.cell? ⟨w.heap.size,1,none⟩=some (.int .i64 x):=hp.cell 1
   have p2:wr.cell? ⟨w.heap.size,2,none⟩=some (.int .i64 y):=hp.cell 2
   have HW:=hd_ hw
   have HK:=hd_ hkp
   clear hw hkp hp
   rcases nodeE_01 W H (N:Int) c x y (k:Int) with he|he
   ·go_wp2_with (first
     | (go_at_call 67;refine (node_any _ _ _ _ _ _ c _ hc).mono ?_;rintro e w1 ⟨rfl,hb1⟩;have E1:=HW.out.keep hb1;have j0:w1.cell? ⟨J,0,none⟩=some (.func (.func 65) #[] #[.pointer (some ⟨B,0,none⟩)]):=E1.join.cell 0;have HE1:=hd_ E1;clear E1)
     | (go_at_call 65;refine (join_any w0 _ B A J W H (N:Int) _ _ _ HE1.out (by have:=meetTo_len W H (N:Int) n c x y k;simp;omega)).mono ?_;rintro e w2 ⟨rfl,hw2,hk2⟩))
    go_roundw
    case rel =>
     refine ⟨k+1,by omega,by go_num,?_,(HK.out.trans (Keeps.of_below hb1)).trans hk2⟩
     simp only [meetTo,if_pos he]
     rw [<- List.append_assoc]
     exact hw2
    case measure=>simp [intOf];omega
   ·go_wp2_with (go_at_call 67;refine (node_any _ _ _ _ _ _ c _ hc).mono ?_;rintro e w1 ⟨rfl,hb1⟩)
    go_roundw
    case rel =>
     refine ⟨k+1,by omega,by go_num,?_,HK.out.trans (Keeps.of_below hb1)⟩
     simp only [meetTo,if_neg (show ¬ nodeE W H (N:Int) c x y (k:Int)=0 from by omega),List.append_nil]
     exact HW.out.keep hb1
    case measure=>simp [intOf];omega
  ·obtain rfl:k=N:=by omega
   have HW:=hd_ hw
   have HK:=hd_ hkp
   clear hw hkp
   go_wp2
   go_end0
   exact ⟨rfl,by simpa using HW.out,(Keeps.of_below (bn_ w _)).trans HK.out⟩
end Go.Proofs.YtmkiphadkmodnaaGreat
namespace Go.Proofs.YtmkiphadkmodnaaGreat
open Go.RowKit
def arC:Nat->Nat
 | 0=>3
 | 1=>4
 | 2=>3
 | _=>4
def arX (x:Int):Nat->Int
 | 1=>x+1
 | _=>x
def arY (y:Int):Nat->Int
 | 2=>y+1
 | _=>y
def aroundC (x y:Int):List Value:=[.int .i64 4,.int .i64 x,.int .i64 y,.int .i64 5,.int .i64 (x+1),.int .i64 y,.int .i64 4,.int .i64 x,.int .i64 (y+1),.int .i64 5,.int .i64 x,.int .i64 y]
theorem arC_lt (k:Nat):arC k<5:=by
 rcases k with _|_|_|k <;> simp [arC]
theorem lt4 {k:Nat} (h:k<4):k=0∨k=1∨k=2∨k=3:=by omega
theorem around_at (x y:Int) {k:Nat} (hk:k<4) (w:World) :
  (Instr.index 114 (.agg (aroundC x y).toArray) (.int .i64 (k:Int))).run Tryz.prog w=.ok (.agg #[.int .i64 ((arC k:Int)+1),.int .i64 (arX x k),.int .i64 (arY y k)]) w:=by
 rcases lt4 hk with rfl|rfl|rfl|rfl <;> kernel_rfl
theorem around_any (x y:Int) (w:World) (hx:0<=x∧x<=100) (hy:0<=y∧y<=100) :
  Calls Tryz.prog 70 #[.int .i64 x,.int .i64 y] w fun e w'=>e=.returned (.agg (aroundC x y).toArray)∧Below w.heap.size w w':=by
 have hi:(Tryz.prog.info? 114).map (·.size)=some 12:=by kernel_rfl
 have hbt:∀ (x y:Int),Tryz.prog.built 114 [(0,.agg #[.int .i64 4,.int .i64 x,.int .i64 y]),(1,.agg #[.int .i64 5,.int .i64 (x+1),.int .i64 y]),(2,.agg #[.int .i64 4,.int .i64 x,.int .i64 (y+1)]),(3,.agg #[.int .i64 5,.int .i64 x,.int .i64 y])]=some (aroundC x y).toArray:=fun _ _=>by kernel_rfl
 have HB:=hd_ hbt
 clear hbt
 go_enter Tryz.func70,Tryz.ntmps70
 go_wp2_with (first|((with_reducible refine wpList_build_to rfl 114 _ rfl _ rfl (aroundC x y).toArray ?_ ?_);(· exact HB.out x y))|((with_reducible apply wpList_store_new (cells:=aroundC x y) rfl 114 (.tmp 4) (.tmp 19) rfl);(case hW=>exact rfl);(case hx=>exact rfl);(case hn=>simp);(case hy=>rfl);(case hl=>rfl);(case hi=>exact hi);(case h1=>rfl)))
 refine bodyPost_ret (v:=.agg (aroundC x y).toArray) ?_ rfl ⟨rfl,?_⟩
 ·exact results_cell_row rfl _ _ w.heap.size 114 _ (0,0) _ rfl (by simpa using heap_alloc_new w _) Tryz.underlying114 rfl hi
 ·exact bn_ w _
def brC (W H p:Int):Nat:=if p<2*W then 3 else 4
def brX (W H p:Int):Int:=if p<W then p else if p<2*W then p-W else if p<2*W+H then 0 else W
def brY (W H p:Int):Int:=if p<W then 0 else if p<2*W then H else if p<2*W+H then p-2*W else p-2*W-H
theorem brC_lt (W H p:Int):brC W H p<5:=by unfold brC;split <;> omega
theorem border_any (W H T p:Int) (w:World) (h:okA W H T) (hp:0<=p∧p<=100) :
  Calls Tryz.prog 71 #[.agg #[.int .i64 W,.int .i64 H,.int .i64 T],.int .i64 p] w fun e w'=>e=.returned (.agg #[.int .i64 ((brC W H p:Int)+1),.int .i64 (brX W H p),.int .i64 (brY W H p)])∧Below w.heap.size w w':=by
 have hh:=h
 unfold okA at hh
 have hi:(Tryz.prog.info? 109).map (·.size)=some 3:=by kernel_rfl
 have HI:=hd_ hi
 clear hi h
 by_cases c1:p<W
 ·have e1:(brC W H p:Int)+1=4:=by unfold brC;rw [if_pos (by omega)];rfl
  have e2:brX W H p=p:=by unfold brX;rw [if_pos c1]
  have e3:brY W H p=0:=by unfold brY;rw [if_pos c1]
  rw [e1,e2,e3]
  clear e1 e2 e3
  go_enter Tryz.func71,Tryz.ntmps71
  go_wp2
  go_region
  go_wp2
  refine bodyPost_ret (v:=.agg #[.int .i64 4,.int .i64 (p),.int .i64 (0)]) ?_ rfl ⟨rfl,?_⟩
  ·exact results_cell_row rfl _ _ (w.heap.size+1) 109 _ (0,0) _ rfl (heap_alloc2_new w _ _) Tryz.underlying109 rfl HI.out
  ·exact (bt_ (bn_ w _) (bn_ _ _)).drew
 ·by_cases c2:p<2*W
  ·have e1:(brC W H p:Int)+1=4:=by unfold brC;rw [if_pos (by omega)];rfl
   have e2:brX W H p=p-W:=by unfold brX;rw [if_neg c1,if_pos c2]
   have e3:brY W H p=H:=by unfold brY;rw [if_neg c1,if_pos c2]
   rw [e1,e2,e3]
   clear e1 e2 e3
   go_enter Tryz.func71,Tryz.ntmps71
   go_wp2
   go_region
   go_wp2
   refine bodyPost_ret (v:=.agg #[.int .i64 4,.int .i64 (p-W),.int .i64 (H)]) ?_ rfl ⟨rfl,?_⟩
   ·exact results_cell_row rfl _ _ (w.heap.size+1) 109 _ (0,0) _ rfl (heap_alloc2_new w _ _) Tryz.underlying109 rfl HI.out
   ·exact (bt_ (bn_ w _) (bn_ _ _)).drew
  ·by_cases c3:p<2*W+H
   ·have e1:(brC W H p:Int)+1=5:=by unfold brC;rw [if_neg (by omega)];rfl
    have e2:brX W H p=0:=by unfold brX;rw [if_neg c1,if_neg c2,if_pos c3]
    have e3:brY W H p=p-2*W:=by unfold brY;rw [if_neg c1,if_neg c2,if_pos c3]
    rw [e1,e2,e3]
    clear e1 e2 e3
    go_enter Tryz.func71,Tryz.ntmps71
    go_wp2
    go_region
    go_wp2
    refine bodyPost_ret (v:=.agg #[.int .i64 5,.int .i64 (0),.int .i64 (p-2*W)]) ?_ rfl ⟨rfl,?_⟩
    ·exact results_cell_row rfl _ _ (w.heap.size+1) 109 _ (0,0) _ rfl (heap_alloc2_new w _ _) Tryz.underlying109 rfl HI.out
    ·exact (bt_ (bn_ w _) (bn_ _ _)).drew
   ·have e1:(brC W H p:Int)+1=5:=by unfold brC;rw [if_neg (by omega)];rfl
    have e2:brX W H p=W:=by unfold brX;rw [if_neg c1,if_neg c2,if_neg c3]
    have e3:brY W H p=p-2*W-H:=by unfold brY;rw [if_neg c1,if_neg c2,if_neg c3]
    rw [e1,e2,e3]
    clear e1 e2 e3
    go_enter Tryz.func71,Tryz.ntmps71
    go_wp2
    go_region
    go_wp2
    refine bodyPost_ret (v:=.agg #[.int .i64 5,.int .i64 (W),.int .i64 (p-2*W-H)]) ?_ rfl ⟨rfl,?_⟩
    ·exact results_cell_row rfl _ _ (w.heap.size+1) 109 _ (0,0) _ rfl (heap_alloc2_new w _ _) Tryz.underlying109 rfl HI.out
    ·exact (bt_ (bn_ w _) (bn_ _ _)).drew
end Go.Proofs.YtmkiphadkmodnaaGreat
namespace Go.Proofs.YtmkiphadkmodnaaGreat
def arTo (W H T n x y:Int):Nat->List (Int × Int)
 | 0=>[]
 | k+1=>arTo W H T n x y k++meetTo W H T n (arC k) (arX x k) (arY y k) T.toNat
def nodeL (W H T n:Int):List (Int × Int) :=
 if whK W H T n=1 then arTo W H T n (whX W H T n) (whY W H T n) 4
 else if whK W H T n=2 then meetTo W H T n (arC (whT W H T n).toNat) (arX (whX W H T n) (whT W H T n).toNat) (arY (whY W H T n) (whT W H T n).toNat) T.toNat
 else if whK W H T n=3 then meetTo W H T n (brC W H (whX W H T n)) (brX W H (whX W H T n)) (brY W H (whX W H T n)) T.toNat
 else []
def loop1 (W H T:Int):Nat->List (Int × Int)
 | 0=>[]
 | k+1=>loop1 W H T k++nodeL W H T (k:Int)
def coC:Nat->Nat
 | 0=>3
 | 1=>3
 | _=>4
def coX (x:Int):Nat->Int
 | 0=>x-1
 | _=>x
def coY (y:Int):Nat->Int
 | 2=>y-1
 | _=>y
theorem coC_lt (k:Nat):coC k<5:=by
 rcases k with _|_|k <;> simp [coC]
def hereTo (W H T x y t:Int):Nat->List Int
 | 0=>[]
 | k+1=>hereTo W H T x y t k++(if nodeE W H T (coC k) (coX x k) (coY y k) t=0 then [nodeN W H T (coC k) (coX x k) (coY y k) t] else [])
def cornerTo (W H T x y t:Int):Nat->List (Int × Int)
 | 0=>[]
 | k+1=>cornerTo W H T x y t k++(if nodeE W H T (coC k) (coX x k) (coY y k) t=0 then (hereTo W H T x y t k).map fun m=>(lo m (nodeN W H T (coC k) (coX x k) (coY y k) t),hi m (nodeN W H T (coC k) (coX x k) (coY y k) t)) else [])
def tTo (W H T x y:Int):Nat->List (Int × Int)
 | 0=>[]
 | k+1=>tTo W H T x y k++cornerTo W H T x y (k:Int) 4
def yTo (W H T x:Int):Nat->List (Int × Int)
 | 0=>[]
 | k+1=>yTo W H T x k++tTo W H T x (k:Int) T.toNat
def xTo (W H T:Int):Nat->List (Int × Int)
 | 0=>[]
 | k+1=>xTo W H T k++yTo W H T (k:Int) (H+1).toNat
def rawL (W H T:Int):List (Int × Int):=loop1 W H T (nodesI W H T).toNat++xTo W H T (W+1).toNat
theorem arTo_len {W H T n x y:Int} (hT:T<=16) (k:Nat):(arTo W H T n x y k).length<=16*k:=by
 induction k with
 | zero=>simp [arTo]
 | succ k ih =>
  have:=meetTo_len W H T n (arC k) (arX x k) (arY y k) T.toNat
  simp only [arTo,List.length_append];omega
theorem nodeL_len {W H T n:Int} (hT:T<=16):(nodeL W H T n).length<=64:=by
 unfold nodeL
 split
 ·have:=arTo_len (W:=W) (H:=H) (n:=n) (x:=whX W H T n) (y:=whY W H T n) hT 4
  omega
 ·split
  ·have:=meetTo_len W H T n (arC (whT W H T n).toNat) (arX (whX W H T n) (whT W H T n).toNat) (arY (whY W H T n) (whT W H T n).toNat) T.toNat
   omega
  ·split
   ·have:=meetTo_len W H T n (brC W H (whX W H T n)) (brX W H (whX W H T n)) (brY W H (whX W H T n)) T.toNat
    omega
   ·simp
theorem loop1_len {W H T:Int} (hT:T<=16) (k:Nat):(loop1 W H T k).length<=64*k:=by
 induction k with
 | zero=>simp [loop1]
 | succ k ih =>
  have:=nodeL_len (W:=W) (H:=H) (n:=(k:Int)) hT
  simp only [loop1,List.length_append];omega
theorem hereTo_len (W H T x y t:Int) (k:Nat):(hereTo W H T x y t k).length<=k:=by
 induction k with
 | zero=>simp [hereTo]
 | succ k ih =>
  simp only [hereTo,List.length_append]
  split <;> simp <;> omega
theorem cornerTo_len (W H T x y t:Int) (k:Nat):(cornerTo W H T x y t k).length<=k*k:=by
 induction k with
 | zero=>simp [cornerTo]
 | succ k ih =>
  have:=hereTo_len W H T x y t k
  have e:(k+1)*(k+1)=k*k+2*k+1:=by rw [Nat.add_mul,Nat.mul_add];omega
  simp only [cornerTo,List.length_append]
  split <;> simp <;> omega
theorem tTo_len (W H T x y:Int) (k:Nat):(tTo W H T x y k).length<=16*k:=by
 induction k with
 | zero=>simp [tTo]
 | succ k ih =>
  have:=cornerTo_len W H T x y (k:Int) 4
  simp only [tTo,List.length_append];omega
theorem yTo_len {W H T x:Int} (hT:T<=16) (k:Nat):(yTo W H T x k).length<=256*k:=by
 induction k with
 | zero=>simp [yTo]
 | succ k ih =>
  have:=tTo_len W H T x (k:Int) T.toNat
  simp only [yTo,List.length_append];omega
theorem xTo_len {W H T:Int} (hH:H<=16) (hT:T<=16) (k:Nat):(xTo W H T k).length<=4352*k:=by
 induction k with
 | zero=>simp [xTo]
 | succ k ih =>
  have:=yTo_len (W:=W) (H:=H) (x:=(k:Int)) hT (H+1).toNat
  simp only [xTo,List.length_append];omega
end Go.Proofs.YtmkiphadkmodnaaGreat
