/- BfM, 30 -/
import Derived.Laws.MakeOwn
import Derived.Deep.DeepCutAuto
import Derived.Test.YtmkiphadkmodnaaGreatZBfM29
import Derived.Test.YtmkiphadkmodnaaGreatZBfM0
import Derived.Laws.Rows
import Derived.Laws.BitsAll
set_option linter.all false
set_option maxRecDepth 100000
set_option maxHeartbeats 8000000
namespace Go.Proofs.YtmkiphadkmodnaaGreat
open Go.RowKit Topo
def ORD (P:PK) (w:World) (R:Ending->World->Prop):Prop :=
 Calls Tryz.prog 114 #[.agg #[.int .i64 P.I,.slice P.AB P.bs.length P.cB,.slice P.AO P.outs.length P.cO]] w R
theorem order_no (P:PK) (w:World) (hin:P.In w) (hf:P.fit) (h:¬ P.may):ORD P w fun e w'=>e=.returned (.tuple #[.slice none 0 0,.int .i64 1])∧Below w.heap.size w w':=by
 have T0:=hd_ (MW.new w P)
 have hm:=may_any P _ (hin.later (bn_ w (.cells #[.int .i64 P.I,.slice P.AB P.bs.length P.cB,.slice P.AO P.outs.length P.cO] 27))) hf
 unfold MAY at hm
 have HM:=hd_ hm
 have H:=hd_ h
 clear hm hin hf h
 unfold ORD
 go_enter Tryz.func114,Tryz.ntmps114
 go_wp2_with fail
 refine HM.out.mono ?_
 rintro e w1 ⟨rfl,hb1⟩
 have T1:=hd_ (T0.out.keep hb1)
 have hd:decide P.may=false:=decide_eq_false H.out
 rw [hd]
 clear hb1 hd
 go_wp2_with fail
 go_ret2
 exact ⟨rfl,T1.out.below⟩
theorem made_one (z:Value) (N:Nat):(madeCells #[z] N).toList=List.replicate N z:=by
 apply List.ext_getElem <;> simp [madeCells,Nat.mod_one]
theorem made_eq (z:Value) (N:Nat):madeCells #[z] N=(List.replicate N z).toArray:=by rw [<- made_one]
theorem own_laid (w:World) (t:TypeId) (cs:List Value) (n base:Nat) (hl:cs.length=n) (hb:base<=w.heap.size) (hn:n<=100000000):(w.alloc (.cells cs.toArray t)).ownsRow base t 1 (.slice (some ⟨w.heap.size,0,none⟩) n n) n cs:=by
 subst hl
 refine ⟨by simp,.inr ⟨w.heap.size,cs.length,cs.toArray,rfl,hb,heap_alloc_new w _,Nat.le_refl _,by unfold maxLen;omega,by simp,by simp⟩⟩
theorem ints_zero (N:Nat):List.replicate N (Value.int .i64 0)=ints (natI (List.replicate N 0)):=by simp [ints,natI]
theorem rows_none (N:Nat):List.replicate N (Value.slice none 0 0)=(List.replicate N ((none,0,[]):SN)).map rowV:=by simp [rowV]
def TwoNew (w1:World) (N:Nat) (v4 v5:Value) (wx:World):Prop:=∃ gw gb:Nat,v4=.slice (some ⟨gw,0,none⟩) N N∧v5=.slice (some ⟨gb,0,none⟩) N N∧Below w1.heap.size w1 wx ∧
 wx.ownsRow w1.heap.size 3 1 (.slice (some ⟨gw,0,none⟩) N N) N (List.replicate N (.int .i64 0))∧wx.ownsRow w1.heap.size 25 1 (.slice (some ⟨gb,0,none⟩) N N) N (List.replicate N (.slice none 0 0))
theorem two_new (w1:World) (N:Nat) (hN:N<=1024) (t1 t2:TypeId) (z1 z2:Value):Below w1.heap.size w1 ((w1.alloc (.cells (Array.replicate N z1) t1)).alloc (.cells (Array.replicate N z2) t2)).drew ∧
  (((w1.alloc (.cells (Array.replicate N z1) t1)).alloc (.cells (Array.replicate N z2) t2)).drew).ownsRow w1.heap.size t1 1 (.slice (some ⟨w1.heap.size,0,none⟩) N N) N (List.replicate N z1) ∧
  (((w1.alloc (.cells (Array.replicate N z1) t1)).alloc (.cells (Array.replicate N z2) t2)).drew).ownsRow w1.heap.size t2 1 (.slice (some ⟨w1.heap.size+1,0,none⟩) N N) N (List.replicate N z2):=by
 have e1:Array.replicate N z1=(List.replicate N z1).toArray:=by simp
 have e2:Array.replicate N z2=(List.replicate N z2).toArray:=by simp
 rw [e1,e2]
 refine ⟨(bt_ (bn_ _ _) (bn_ _ _)).drew,?_,?_⟩
 ·exact (own_laid w1 t1 (List.replicate N z1) N w1.heap.size (by simp) (Nat.le_refl _) (by omega)).alloc _
 ·have:=own_laid (w1.alloc (.cells (List.replicate N z1).toArray t1)) t2 (List.replicate N z2) N w1.heap.size (by simp) (by simp) (by omega)
  rw [World.size_alloc] at this
  exact this
theorem two_a (w1:World) (N:Nat) (hN:N<=1024):TwoNew w1 N (.slice (some ⟨w1.heap.size+1,0,none⟩) N N) (.slice (some ⟨w1.heap.size,0,none⟩) N N) ((w1.alloc (.cells (Array.replicate N (.slice none 0 0)) 25)).alloc (.cells (Array.replicate N (.int .i64 0)) 3)).drew:=by
 obtain ⟨h1,h2,h3⟩:=two_new w1 N hN 25 3 (.slice none 0 0) (.int .i64 0)
 exact ⟨_,_,rfl,rfl,h1,h3,h2⟩
theorem two_b (w1:World) (N:Nat) (hN:N<=1024):TwoNew w1 N (.slice (some ⟨w1.heap.size,0,none⟩) N N) (.slice (some ⟨w1.heap.size+1,0,none⟩) N N) ((w1.alloc (.cells (Array.replicate N (.int .i64 0)) 3)).alloc (.cells (Array.replicate N (.slice none 0 0)) 25)).drew:=by
 obtain ⟨h1,h2,h3⟩:=two_new w1 N hN 3 25 (.int .i64 0) (.slice none 0 0)
 exact ⟨_,_,rfl,rfl,h1,h2,h3⟩
theorem OW.start {w0 w1 w2:World} {P:PK} {N gw gb:Nat} (T:MW w0 w1 w0.heap.size P) (hbox:Blk w1 w0.heap.size 27 #[.int .i64 P.I,.slice P.AB P.bs.length P.cB,.slice P.AO P.outs.length P.cO])
  (hb:Below w1.heap.size w1 w2) (hw:w2.ownsRow w1.heap.size 3 1 (.slice (some ⟨gw,0,none⟩) N N) N (List.replicate N (.int .i64 0))) (ho:w2.ownsRow w1.heap.size 25 1 (.slice (some ⟨gb,0,none⟩) N N) N (List.replicate N (.slice none 0 0))) :
  OW w0 (w2.alloc (.cells #[.slice none 0 0] 165)) P N w2.heap.size gw gb (fun _=>0) (List.replicate N 0) (List.replicate N (none,0,[])) none 0 [] none 0 []:=by
 have hlt:w0.heap.size<w1.heap.size:=T.box.lt
 have hn:=bn_ w2 (.cells #[.slice none 0 0] 165)
 have h12:=hb.size
 have up:∀ {base:Nat} {e:TypeId} {n:Nat} {v:Value} {xs:List Value},w2.ownsRow w1.heap.size e 1 v n xs->w2.ownsRow w0.heap.size e 1 v n xs:=fun h=>⟨h.1,by
  rcases h.2 with h'|⟨g,cap,cur,a1,a2,a3⟩
  ·exact .inl h'
  ·exact .inr ⟨g,cap,cur,a1,by omega,a3⟩⟩
 refine ⟨bt_ (bt_ T.below hb) hn,(hbox.below hb hlt).keep hn,by simp,by simp,⟨?_,fun _ _=>rfl⟩,?_,fun k b hk=>?_,⟨?_,?_⟩,(fun g hg=>by cases hg),⟨?_,fun g hg=>by cases hg⟩,by omega⟩
 ·have:=own_keep (up (base:=0) hw) hn
  rw [ints_zero] at this
  simpa using this
 ·have:=own_keep (up (base:=0) ho) hn
  rw [rows_none] at this
  exact this
 ·have:=(List.mem_replicate.1 (List.mem_of_getElem? hk)).2
  rw [this]
  exact ⟨World.ownsRow_nil _ _ _ _,fun g hg=>by cases hg⟩
 ·exact Blk.made w2 _ _
 ·exact World.ownsRow_nil _ _ _ _
 ·exact World.ownsRow_nil _ _ _ _
section
variable {w0 wx wy : World} {P : PK} {N R gw gb : Nat} {f : Nat → Nat} {Wt : List Nat} {Bs : List SN} {A A' : Option Addr} {c c' : Nat} {L L' : List Nat} {AO AO' : Option Addr} {cO cO' : Nat} {O O' : List Nat}
theorem OW.waitCell (h:OW w0 wx P N R gw gb f Wt Bs A c L AO cO O) {k:Nat} (hk:k<N):wx.cell? ⟨gw,k,none⟩=some (.int .i64 (Wt.getD k 0:Int))∧wx.frozen? ⟨gw,k,none⟩=false:=by
 refine ⟨?_,h.wait.own.frozenAt k⟩
 have:=h.wait.own.cells (g:=gw) rfl k (.int .i64 (Wt.getD k 0:Int)) (by
  have hk':k<Wt.length:=by rw [h.wl];exact hk
  simp [ints,natI,List.getD_eq_getElem?_getD,List.getElem?_eq_getElem hk'])
 rw [Addr.add_lit] at this
 simpa using this
theorem OW.rowCell (h:OW w0 wx P N R gw gb f Wt Bs A c L AO cO O) {k:Nat} (hk:k<N):∃ b,Bs[k]? = some b∧wx.cell? ⟨gb,k,none⟩=some (rowV b)∧wx.frozen? ⟨gb,k,none⟩=false:=by
 have hk':k<Bs.length:=by rw [h.bl];exact hk
 refine ⟨Bs[k],List.getElem?_eq_getElem hk',?_,h.outer.frozenAt k⟩
 have:=h.outer.cells (g:=gb) rfl k (rowV Bs[k]) (by simp [List.getElem?_eq_getElem hk'])
 rw [Addr.add_lit] at this
 simpa using this
theorem OW.rowCellG (h:OW w0 wx P N R gw gb f Wt Bs A c L AO cO O) {k:Nat} {b:SN} (hb:Bs[k]? = some b) (hg:wx.grownBy wy (blkOf b.1)):wy.cell? ⟨gb,k,none⟩=some (rowV b)∧wy.frozen? ⟨gb,k,none⟩=false:=by
 have hrow:=h.inner k b hb
 have hX0:∀ j,some j=blkOf b.1->isInt wx j:=fun j e=>hrow.int e.symm
 have ho1:wy.ownsRow w0.heap.size 25 1 (.slice (some ⟨gb,0,none⟩) N N) N (Bs.map rowV):=(Chg.of_grown hg).own h.outer fun g hg e=>by
  injection hg with hg
  subst hg
  exact h.ne_o (hX0 _ e) rfl
 refine ⟨?_,ho1.frozenAt k⟩
 have:=ho1.cells (g:=gb) rfl k (rowV b) (by simp [hb])
 rw [Addr.add_lit] at this
 simpa using this
theorem OW.innerTurn' (h:OW w0 wx P N R gw gb f Wt Bs A c L AO cO O) {k:Nat} {qA qB:Option Addr} {qc qd:Nat} {ql:List Nat} (x:Nat) (hb:Bs[k]? = some (qA,qc,ql)) (hr:wy.ownsRow w0.heap.size 3 1 (.slice qB (ql.length+1) qd) (ql.length+1) (ints (natI ql)++[.int .i64 (x:Int)])) (hg:wx.grownBy wy (.slice qA ql.length qc:Value).ownBlock) (hs:(Value.slice qB (ql.length+1) qd).ownBlock=(Value.slice qA ql.length qc).ownBlock∨(Value.slice qB (ql.length+1) qd).ownBlock=some wx.heap.size) :
  OW w0 (wy.setCell ⟨gb,k,none⟩ (.slice qB (ql.length+1) qd)) P N R gw gb (named f wx.heap.size (3+k)) Wt (Bs.set k (qB,qd,ql++[x])) A c L AO cO O:=by
 rw [own_blk] at hg
 rw [own_blk,own_blk] at hs
 have e:rowV (qB,qd,ql++[x])=.slice qB (ql.length+1) qd:=by simp [rowV]
 have e2:ints (natI (ql++[x]))=ints (natI ql)++[.int .i64 (x:Int)]:=by simp [ints,natI]
 have:=h.innerTurn (b':=(qB,qd,ql++[x])) hb (by rw [e,e2];simpa using hr) hg (hs.imp id fun h g hg=>by rw [h] at hg;injection hg with hg;omega)
 rw [e] at this
 exact this
end
theorem edB_len (I:Int) (bs:List BL) (i:Nat):∀ l:List Int,(edB I bs i l).length<=l.length
 | []=>by simp [edB]
 | x::l=>by
  have:=edB_len I bs i l
  unfold edB at this ⊢
  rw [List.flatMap_cons,List.length_append,List.length_cons]
  have h:(edOf I bs i x).length<=1:=by unfold edOf;split <;> simp
  omega
theorem cnt_now (I:Int) (bs:List BL) (k:Nat) (l:List Int):cnt (edTo I bs k++edB I bs k l) [] k<=l.length:=by
 unfold cnt
 rw [List.countP_append]
 have h0:(edTo I bs k).countP (fun e=>e.2==k&&!([]:List Nat).elem e.1)=0:=by
  rw [List.countP_eq_zero]
  intro e he
  have:=(edTo_snd k e he).1
  simp
  omega
 have h1:=List.countP_le_length (p:=fun e:Nat × Nat=>e.2==k&&!([]:List Nat).elem e.1) (l:=edB I bs k l)
 have:=edB_len I bs k l
 omega
theorem edTo_len {I:Int} {bs:List BL} (h:∀ b ∈ bs,b.l.length<=4):∀ k,(edTo I bs k).length<=4*k
 | 0=>by simp [edTo]
 | k+1=>by
  have:=edTo_len (I:=I) h k
  have h2:=edB_len I bs k (inL bs k)
  have h3:(inL bs k).length<=4:=by
   unfold inL
   cases e:bs[k]? with
   | none=>simp
   | some b=>exact h b (List.mem_of_getElem? e)
  show (edTo I bs k++_).length<=_
  rw [List.length_append]
  split
  ·simp;omega
  ·omega
theorem beh_len (E:List (Nat × Nat)) (k:Nat):(beh E k).length<=E.length:=by
 unfold beh
 rw [List.length_map]
 exact List.length_filter_le _ _
theorem beh_now {P:PK} (h:P.may) (k j q:Nat) (l:List Int) (hk:k<=1024) (hl:l.length<=4):(beh (edTo P.I P.bs k++edB P.I P.bs k (l.take j)) q).length<=10000:=by
 have h1:=beh_len (edTo P.I P.bs k++edB P.I P.bs k (l.take j)) q
 have h2:=edTo_len (I:=P.I) (bs:=P.bs) (fun b hb=>(h.2.2.2.1 b hb).1) k
 have h3:=edB_len P.I P.bs k (l.take j)
 rw [List.length_append] at h1
 rw [List.length_take] at h3
 omega
theorem Ed.len {N i:Nat} {bs:List BL} {E:List (Nat × Nat)} {Wt:List Nat} {Bs:List SN} {L:List Nat} (h:Ed N bs i E Wt Bs L):L.length<=i:=by
 have:=sub_len (m:=List.range i) h.nd fun x hx=>List.mem_range.2 ((h.rd x).1 hx).1
 simpa using this
def OrdOut (P:PK) (w:World) (e:Ending) (w':World):Prop :=
 (∃ A c O,e=.returned (.tuple #[.slice A O.length c,.int .i64 0])∧All (depE P.E) P.S O∧Below w.heap.size w w'∧Rd w' 1 A O.length c (ints (natI O))) ∨
 (e=.returned (.tuple #[.slice none 0 0,.int .i64 321])∧(∀ m,¬ All (depE P.E) P.S m)∧Below w.heap.size w w')
def lenOf (n:Nat):Value->Nat
 | .slice _ m _=>n-m
 | _=>0
theorem assert_int (x:Int) (w:World):(Instr.typeAssert (.iface 3 (.int .i64 x)) 20 3 false).run Tryz.prog w=.ok (.int .i64 x) w:=by kernel_rfl
section
variable {w0 wx wy : World} {P : PK} {N R gw gb : Nat} {f : Nat → Nat} {Wt : List Nat} {Bs : List SN} {A A' : Option Addr} {c c' : Nat} {L L' : List Nat} {AO AO' : Option Addr} {cO cO' : Nat} {O O' : List Nat}
theorem OW.readyCell (h:OW w0 wx P N R gw gb f Wt Bs A c L AO cO O):wx.cell? ⟨R,0,none⟩=some (.slice A L.length c):=by
 have:=h.ready.cell
 rwa [natI_length] at this
theorem OW.outTurn' (h:OW w0 wx P N R gw gb f Wt Bs A c L AO cO O) {qB:Option Addr} {qd:Nat} (x:Nat) (hr:wy.ownsRow w0.heap.size 3 1 (.slice qB (O.length+1) qd) (O.length+1) (ints (natI O)++[.int .i64 (x:Int)])) (hg:wx.grownBy wy (.slice AO O.length cO:Value).ownBlock) (hs:(Value.slice qB (O.length+1) qd).ownBlock=(Value.slice AO O.length cO).ownBlock∨(Value.slice qB (O.length+1) qd).ownBlock=some wx.heap.size) :
  OW w0 wy P N R gw gb (named f wx.heap.size 2) Wt Bs A c L qB qd (O++[x]):=by
 rw [own_blk] at hg
 rw [own_blk,own_blk] at hs
 have e2:ints (natI (O++[x]))=ints (natI O)++[.int .i64 (x:Int)]:=by simp [ints,natI]
 exact h.outTurn (by rw [e2];simpa using hr) hg (hs.imp id fun h g hg=>by rw [h] at hg;injection hg with hg;omega)
end
theorem int_sub_nat {x i n:Int} (h:¬ x<i) (h2:x<i+n):∃ q:Nat,x-i=(q:Int)∧(q:Int)<n:=⟨(x-i).toNat,by omega,by omega⟩
theorem order_yes (P:PK) (w:World) (hin:P.In w) (hf:P.fit) (h:P.may):ORD P w (OrdOut P w):=by
 have T0:=hd_ (MW.new w P)
 have X0:=hd_ (Blk.made w 27 #[.int .i64 P.I,.slice P.AB P.bs.length P.cB,.slice P.AO P.outs.length P.cO])
 have hm:=may_any P _ (hin.later (bn_ w (.cells #[.int .i64 P.I,.slice P.AB P.bs.length P.cB,.slice P.AO P.outs.length P.cO] 27))) hf
 unfold MAY at hm
 have HM:=hd_ hm
 have H:=hd_ h
 have HIN:=hd_ hin
 have HF:=hd_ hf
 have hI0:0<=P.I:=h.1
 have hI1:P.I<=1024:=h.2.1
 have hN:P.bs.length<=1024:=h.2.2.1
 obtain ⟨i0,hi0,hz0,hz1,hz2⟩:=info_parts int_info
 obtain ⟨j0,hj0,hy0,hy1,hy2⟩:=info_parts (show (Tryz.prog.info? 25).map (fun i=>(i.zero,i.size,i.bytes))=some (some (.slice none 0 0),1,24) by kernel_rfl)
 have hmk1:∀ w:World,(Instr.makeSlice 25 (.int .i64 (P.bs.length:Int)) (.int .i64 (P.bs.length:Int))).run Tryz.prog w=.ok (.slice (some ⟨w.heap.size,0,none⟩) P.bs.length P.bs.length) (w.alloc (.cells (List.replicate P.bs.length (.int .i64 0)).toArray 3)):=fun w=>by
  have:=run_make (P:=Tryz.prog) w 25 3 i0 (.int .i64 0) Tryz.underlying25 hi0 hz0 .i64 .i64 (P.bs.length:Int) (P.bs.length:Int) (by omega) (Int.le_refl _) (by rw [hz2];omega) (by omega)
  rw [this,hz1]
  simp [Value.cells,made_eq]
 have hmk2:∀ w:World,(Instr.makeSlice 30 (.int .i64 (P.bs.length:Int)) (.int .i64 (P.bs.length:Int))).run Tryz.prog w=.ok (.slice (some ⟨w.heap.size,0,none⟩) P.bs.length P.bs.length) (w.alloc (.cells (List.replicate P.bs.length (.slice none 0 0)).toArray 25)):=fun w=>by
  have:=run_make (P:=Tryz.prog) w 30 25 j0 (.slice none 0 0) Tryz.underlying30 hj0 hy0 .i64 .i64 (P.bs.length:Int) (P.bs.length:Int) (by omega) (Int.le_refl _) (by rw [hy2];omega) (by omega)
  rw [this,hy1]
  simp [Value.cells,made_eq]
 have HI0:=hd_ hi0
 have HZ0:=hd_ hz0
 have HZ1:=hd_ hz1
 have HZ2:=hd_ hz2
 have HMK1:=hd_ hmk1
 have HMK2:=hd_ hmk2
 clear hm hin hf h hi0 hz0 hz1 hz2 hj0 hy0 hy1 hy2 hmk1 hmk2
 unfold ORD
 go_enter Tryz.func114,Tryz.ntmps114
 go_wp2_with fail
 refine HM.out.mono ?_
 rintro e w1 ⟨rfl,hb1⟩
 have T1:=hd_ (T0.out.keep hb1)
 have X1:=hd_ (X0.out.keep hb1)
 have hd:decide P.may=true:=decide_eq_true H.out
 rw [hd]
 obtain ⟨k0,k1,k2⟩:=T1.out.cells
 have hw1:w.heap.size<w1.heap.size:=T1.out.box.lt
 clear hb1 hd HM
 go_upto_region 3 with (fail)
 go_cut [4,5] (fun v4 v5 wx=>TwoNew w1 P.bs.length v4 v5 wx)
 case first =>
  have hmk1:=HMK1.out
  have hmk2:=HMK2.out
  go_region
  all_goals
   go_wp2_with fail
   go_meet
   first|exact two_a w1 _ hN|exact two_b w1 _ hN
 case rest =>
  obtain ⟨gw,gb,rfl,rfl,hb2,hw2,ho2⟩:=hcut
  have W3:=hd_ (OW.start T1.out X1.out hb2 hw2 ho2)
  have E3:=hd_ (Ed.start P.bs.length P.bs)
  have l1:=W3.out.box.cell 1
  have L1:=hd_ l1
  have hR:w.heap.size<wc.heap.size:=W3.out.lt
  have c1:wc.cell? ⟨w.heap.size,1,none⟩=some (.slice P.AB P.bs.length P.cB):=(Blk.below X1.out hb2 (Nat.lt_of_lt_of_le hw1 (Nat.le_refl _))).cell 1
  clear hb2 hw2 ho2 k0 k1 k2 T1 X1 HMK1 HMK2 l1 T0 X0
  obtain ⟨AB,hAB⟩:∃ AB,P.AB=AB:=⟨_,rfl⟩
  obtain ⟨n,hn⟩:∃ n,P.bs.length=n:=⟨_,rfl⟩
  rw [hAB,hn] at c1
  simp only [hn]
  rw [hn] at hN W3 E3
  have HN:=hd_ hn
  clear hn
  have HAB:=hd_ hAB
  clear hAB
  go_wp2_with fail
  go_loopw [6,31] (fun v6 v31 wx=>∃ (k:Nat) (f:Nat->Nat) (Wt:List Nat) (Bs:List SN) (A:Option Addr) (c:Nat) (L:List Nat),k<=n∧v31=.int .i64 (k:Int)∧v6=.int .i64 (manyTo P.bs k:Int)∧OW w wx P n wc.heap.size gw gb f Wt Bs A c L none 0 []∧Ed n P.bs k (edTo P.I P.bs k) Wt Bs L) (fun _ v31 _=>n-(intOf v31).toNat)
  case atStart=>exact ⟨0,_,_,_,_,_,_,by omega,rfl,rfl,W3.out,E3.out⟩
  case round =>
   obtain ⟨k,f,Wt,Bs,A,c,L,hk,rfl,rfl,hW,hE⟩:=hrel
   have W4:=hd_ hW
   have E4:=hd_ hE
   clear hW hE W3 E3 c1
   by_cases hlt:k<n
   case neg =>
    obtain rfl:k=n:=by omega
    have hE8:Ed P.bs.length P.bs P.bs.length P.E Wt Bs L:=by unfold PK.E;rw [HN.out];exact E4.out
    have S4:=hd_ (hE8.st (by rw [HN.out];exact W4.out.wl))
    have R4:=hd_ hE8.rows
    clear hE8
    obtain ⟨M,hM⟩:∃ M,manyTo P.bs k=M:=⟨_,rfl⟩
    have HM:=hd_ hM
    have hm8:M<=1024:=by have:=manyTo_le P.bs k;omega
    rw [hM]
    clear hM E4
    have hta:=fun x w=>assert_int x w
    go_wp2_with fail
    go_loopw [13] (fun v13 wx=>∃ (f:Nat->Nat) (Wt:List Nat) (A:Option Addr) (c:Nat) (L:List Nat) (AO:Option Addr) (cO:Nat) (O:List Nat),v13=.slice AO O.length cO∧OW w wx P k wc.heap.size gw gb f Wt Bs A c L AO cO O∧St P.E P.S P.bs.length O L Wt []) (fun v13 _=>lenOf k v13)
    case atStart=>exact ⟨f,Wt,A,c,L,none,0,[],rfl,W4.out,S4.out⟩
    case round =>
     obtain ⟨f2,Wt2,A2,c2,L2,AO,cO,O,rfl,hW,hS⟩:=hrel
     have W5:=hd_ hW
     have S5:=hd_ hS
     clear hW hS W4 S4
     have r0:=W5.out.readyCell
     have hSL:=St.len_le S5.out
     rw [HN.out,List.length_append] at hSL
     cases L2 with
     | nil =>
      have hl0:([]:List Nat).length=0:=rfl
      by_cases hlo:O.length<M
      ·have hlo':(O.length:Int)<(M:Int):=by omega
       have HLO:=hd_ hlo
       clear hlo
       go_wp2_with fail
       go_ret2
       exact .inr ⟨rfl,fun m=>order_none S5.out (by rw [HN.out,HM.out];exact HLO.out) m,W5.out.below⟩
      ·have hlo':¬ (O.length:Int)<(M:Int):=by omega
       have HLO:=hd_ hlo
       clear hlo
       go_wp2_with fail
       go_ret2
       refine .inl ⟨AO,cO,O,rfl,order_all S5.out (by rw [HN.out,HM.out];exact HLO.out),W5.out.below,?_⟩
       have:=Rd.of_own W5.out.out.own
       exact this
     | cons x0 L3 =>
      have hlc:(x0::L3).length=L3.length+1:=rfl
      rw [hlc] at r0 hSL
      obtain ⟨g,rfl,-,-⟩:=W5.out.ready.head (by rw [natI_length,hlc];omega)
      have hout:=W5.out.out.own
      have hwsz:=W5.out.size
      clear hlc
      go_wp2_with fail
      refine (heapPop_any w.heap.size wc.heap.size g c2 L3.length (natI (x0::L3)) _ W5.out.ready (by rw [natI_length];rfl) (by omega)).mono ?_
      rintro e w6 ⟨x,mm,rfl,hp,hq,hk6⟩
      obtain ⟨L6,hL6,hp6⟩:=natI_back hp
      cases L6 with
      | nil=>cases hL6
      | cons i L7 =>
      injection hL6 with hx hmm
      have hx':x=(i:Int):=hx
      have hmm':mm=natI L7:=hmm
      subst hx' hmm'
      clear hx hmm
      have W6:=hd_ (W5.out.turn hq hk6 (.inl rfl))
      obtain ⟨hS6,hSi,hio⟩:=(S5.out.perm hp6).pop
      have S6:=hd_ hS6
      have hib:i<P.bs.length:=PK.S_lt hSi
      rw [HN.out] at hib
      have hSL6:=St.len_le hS6
      rw [HN.out,List.length_append,List.length_append,List.length_singleton] at hSL6
      have W7:=hd_ (W6.out.keep (bn_ w6 (.cells #[.int .i64 (i:Int)] 3)))
      have hwsz6:=W6.out.size
      have hlen9:=W7.out.out.own
      have HL9:=hd_ hlen9
      clear hq hk6 hp hp6 hS6 hSi hio hout hlen9
      go_wp2_with (at_builtin;refine wpList_append_own_at _ rfl (.tmp 95) (.tmp 97) 25 rfl w.heap.size 3 i0 (.int .i64 0) 1 8 Tryz.underlying25 HI0.out HZ0.out HZ1.out HZ2.out rfl (by decide) (.slice AO O.length cO) O.length (ints (natI O)) rfl HL9.out ⟨w6.heap.size,0,none⟩ 1 1 [.int .i64 (i:Int)] rfl rfl ?c1 ?c2 ?c3 ?c4 ?c5 ?_)
      (try (case c1=>exact new_cells _ _ _))
      case c2=>first|rfl|(intro u hu;simp at hu;rcases hu with rfl;rfl)
      case c3=>unfold maxLen;omega
      case c4=>omega
      case c5=>first|omega|(simp;omega)
      intro v' w9 hown9 hg9 hnil9 hat9
      obtain ⟨qB,qd,rfl⟩:=own_slice hown9
      have W9:=hd_ (W7.out.outTurn' i hown9 hg9 (by rw [World.size_alloc];exact hat9))
      obtain ⟨bq,hbq,e1,f1⟩:=W9.out.rowCell hib
      have hrq:=R4.out i bq hbq
      have hin9:=W9.out.inner i bq hbq
      obtain ⟨qA,qc,ql⟩:=bq
      simp only at hrq hin9
      simp only [rowV] at e1
      subst hrq
      have HBQ:=hd_ hbq
      have hbl:=beh_len P.E i
      have hEl:P.E.length<=4096:=by have:=edTo_len (I:=P.I) (bs:=P.bs) (fun b hb=>(H.out.2.2.2.1 b hb).1) P.bs.length;have h2:=HN.out;unfold PK.E;omega
      have hql:(beh P.E i).length<=4096:=by omega
      have hSk:∀ x ∈ beh P.E i,P.S x:=fun x hx=>beh_S hx
      have HSK:=hd_ hSk
      have hrd9:=hd_ (Rd.of_own hin9.own)
      clear hown9 hg9 hat9 hnil9 hbq hin9 HL9 W7 W6 W5 f1 hbl hSk r0
      generalize hrest:beh P.E i=rest at e1 hql S6 HSK hrd9
      have HREST:=hd_ hrest
      clear hrest
      go_wp2_with fail
      go_loopw [104] (fun v104 wx=>∃ (j:Nat) (f:Nat->Nat) (Wt:List Nat) (A:Option Addr) (c:Nat) (L:List Nat),j<=rest.length∧v104=.int .i64 (j:Int)∧OW w wx P k wc.heap.size gw gb f Wt Bs A c L qB qd (O++[i])∧St P.E P.S P.bs.length (O++[i]) L Wt (rest.drop j)) (fun v104 _=>rest.length-(intOf v104).toNat)
      case atStart=>exact ⟨0,_,_,_,_,_,by omega,rfl,W9.out,S6.out⟩
      case round =>
       obtain ⟨j,f8,Wt8,A8,c8,L8,hj,rfl,hW,hS⟩:=hrel
       have W10:=hd_ hW
       have S10:=hd_ hS
       clear hW hS W9 S6 e1 hrd9
       by_cases hjl:j<rest.length
       case neg =>
        obtain rfl:j=rest.length:=by omega
        have hS:=S10.out
        rw [List.drop_length] at hS
        have S11:=hd_ hS
        clear hS
        go_wp2_with fail
        go_roundw
        case rel=>exact ⟨_,Wt8,A8,c8,L8,qB,qd,O++[i],by simp,W10.out,S11.out⟩
        case measure=>simp [lenOf];omega
       have hS:=S10.out
       rw [List.drop_eq_getElem_cons hjl] at hS
       have hSu:=HSK.out rest[j] (List.getElem_mem hjl)
       have hin:=W10.out.inner i _ HBQ.out
       simp only at hin
       rw [HREST.out] at hin
       obtain ⟨ad,hqA,-,cx⟩:=(Rd.of_own hin.own).int hjl
       subst hqA
       rw [natI_getD,show rest.getD j 0=rest[j] by rw [List.getD_eq_getElem?_getD,List.getElem?_eq_getElem hjl];rfl] at cx
       have hLl:=St.len_le hS
       rw [HN.out,List.length_append,List.length_append,List.length_singleton] at hLl
       have hnx:=hS.next (fun b hb=>PK.S_lt hb) hSu
       have hub:=PK.S_lt hSu
       rw [HN.out] at hub
       generalize rest[j]=u at cx hnx hSu hub
       obtain ⟨hw1,-,-,hn1,hn2⟩:=hnx
       obtain ⟨e0,f0⟩:=W10.out.waitCell hub
       obtain ⟨v,hv⟩:∃ v,Wt8.getD u 0=v+1:=⟨Wt8.getD u 0-1,by omega⟩
       rw [hv] at e0 hn1 hn2
       rw [show ((v+1:Nat):Int)=(v:Int)+1 by omega] at e0
       have HN1:=hd_ hn1
       have HN2:=hd_ hn2
       have hv8:v<=8192:=by
        have h1:=S10.out.wt u hSu
        have h2:cnt P.E (O++[i]) u<=P.E.length:=List.countP_le_length
        have h3:(rest.drop j).count u<=(rest.drop j).length:=List.count_le_length
        rw [List.length_drop] at h3
        have h4:=hv
        omega
       have hwsz10:=W10.out.size
       have hul:u<Wt8.length:=by rw [W10.out.wl];exact hub
       clear hS hin hn1 hn2 hw1 hv
       have W11:=hd_ (W10.out.waitSet (k:=u) v)
       have e1:=(W11.out.waitCell hub).1
       rw [show (Wt8.set u v).getD u 0=v by rw [getD_setN Wt8 u u hul,if_pos rfl]] at e1
       by_cases hz:v=0
       ·subst hz
        go_wp2_with fail
        refine (heapPush_any w.heap.size wc.heap.size A8 c8 (natI L8) (u:Int) _ W11.out.ready (by rw [natI_length];omega) (by simp;omega)).mono ?_
        rintro e w12 ⟨rfl,A9,c9,m9,hp9,hq9,hk9,hs9⟩
        have ea:natI L8++[(u:Int)]=natI (L8++[u]):=by simp [natI]
        rw [ea] at hp9
        obtain ⟨L9,rfl,hp10⟩:=natI_back hp9
        rw [own_blk] at hk9
        rw [own_blk,own_blk] at hs9
        have W12:=hd_ (W11.out.turn hq9 hk9 hs9)
        have S12:=hd_ ((HN1.out (by simp)).perm (hp10.trans (List.perm_append_singleton u L8)))
        clear hq9 hk9 hs9 hp9 hp10 ea e0 e1 f0 cx
        go_wp2_with fail
        go_roundw
        case rel=>exact ⟨j+1,_,_,_,_,L9,by omega,by go_num,W12.out,S12.out⟩
        case measure=>simp [intOf];omega
       ·have S12:=hd_ (HN2.out (by omega))
        have hz':((v:Int)==0)=false:=by simp only [beq_eq_false_iff_ne];omega
        go_wp2_with fail
        go_roundw
        case rel=>exact ⟨j+1,_,_,_,_,L8,by omega,by go_num,W11.out,S12.out⟩
        case measure=>simp [intOf];omega
   have hkb:k<P.bs.length:=by rw [HN.out];exact hlt
   obtain ⟨a,hA,hab,c0,c1,c2,c3⟩:=(HIN.out.blocks.later W4.out.below).block hkb
   rw [HAB.out] at hA
   subst hA
   have hff:=ffAt_get hkb
   have hil:=inL_get hkb
   have hrow:=HIN.out.each _ (List.getElem_mem hkb)
   have hbok:=H.out.2.2.2.1 _ (List.getElem_mem hkb)
   have hmn:=manyTo_next P.bs k
   have hml:=manyTo_le P.bs k
   have HROW:=hd_ hrow
   have HIL:=hd_ hil
   have HBOK:=hd_ hbok
   have HFF:=hd_ hff
   have HMN:=hd_ hmn
   clear hrow hil hbok hff hmn
   generalize P.bs[k]=b at c0 c1 c2 c3 HROW HIL HBOK HFF
   obtain ⟨bA,bc,bl,bt,bff,bit⟩:=b
   simp only at c0 c1 c2 c3 HROW HIL HBOK HFF
   have hm8:manyTo P.bs k<=1024:=by omega
   obtain ⟨M,hM⟩:∃ M,manyTo P.bs k=M:=⟨_,rfl⟩
   rw [hM] at hm8 ⊢
   have HM:=hd_ hM
   clear hM hml
   cases bff with
   | true =>
    go_wp2_with fail
    go_roundw
    case rel=>exact ⟨k+1,f,Wt,Bs,A,c,L,by omega,by go_num,by rw [HMN.out,HFF.out,HM.out];rfl,W4.out.keep (bn_ _ _),by
     have e:edTo P.I P.bs (k+1)=edTo P.I P.bs k:=by show edTo P.I P.bs k++_=_;rw [HFF.out,if_pos rfl,List.append_nil]
     rw [e]
     exact E4.out.skip (.inl HFF.out)⟩
    case measure=>simp [intOf];omega
   | false =>
    go_wp2_with fail
    have W5:=hd_ (W4.out.keep (bn_ wr (.cells #[.slice bA bl.length bc,.int .i64 bt,.bool false,.bool bit] 62)))
    have hbl4:bl.length<=4:=HBOK.out.1
    obtain ⟨wo,hwo⟩:∃ wo:World,wo=wr:=⟨_,rfl⟩
    rw [<- hwo]
    rw [<- hwo] at W5 hab
    clear c0 c1 c2 c3 W4
    clear hwo
    go_loopw [43] (fun v43 wx=>∃ (j:Nat) (f:Nat->Nat) (Wt:List Nat) (Bs:List SN),j<=bl.length∧v43=.int .i64 (j:Int)∧OW w wx P n wc.heap.size gw gb f Wt Bs A c L none 0 []∧Ed n P.bs k (edTo P.I P.bs k++edB P.I P.bs k (bl.take j)) Wt Bs L) (fun v43 _=>bl.length-(intOf v43).toNat)
    case atStart=>exact ⟨0,f,Wt,Bs,by omega,rfl,W5.out,by simpa [edB] using E4.out⟩
    case round =>
     obtain ⟨j,f2,Wt2,Bs2,hj,rfl,hW,hE⟩:=hrel
     have W6:=hd_ hW
     have E6:=hd_ hE
     clear hW hE W5 E4
     by_cases hjl:j<bl.length
     case neg =>
      obtain rfl:j=bl.length:=by omega
      have hE7:=E6.out
      rw [List.take_of_length_le (Nat.le_refl _)] at hE7
      have e:edTo P.I P.bs k++edB P.I P.bs k bl=edTo P.I P.bs (k+1):=by show _=edTo P.I P.bs k++_;rw [HFF.out,if_neg (by simp),HIL.out]
      rw [e] at hE7
      have hwt:=hE7.wt k hlt
      have hLl:=hE7.len
      obtain ⟨e0,f0⟩:=W6.out.waitCell hlt
      have E7:=hd_ hE7
      have hmn:manyTo P.bs (k+1)=M+1:=by rw [HMN.out,HFF.out,HM.out];rfl
      have HMN2:=hd_ hmn
      have hwsz:=W6.out.size
      by_cases hz:Wt2.getD k 0=0
      ·have HZ:=hd_ (show cnt (edTo P.I P.bs (k+1)) [] k=0 by rw [<- hwt];exact hz)
       rw [hz] at e0
       clear hE7 e hwt hmn f0 hz
       go_wp2_with fail
       refine (heapPush_any w.heap.size wc.heap.size A c (natI L) (k:Int) _ W6.out.ready (by rw [natI_length];omega) (by omega)).mono ?_
       rintro e w9 ⟨rfl,A9,c9,m9,hp9,hq9,hk9,hs9⟩
       have ea:natI L++[(k:Int)]=natI (L++[k]):=by simp [natI]
       rw [ea] at hp9
       obtain ⟨L9,rfl,hp10⟩:=natI_back hp9
       rw [own_blk] at hk9
       rw [own_blk,own_blk] at hs9
       have W9:=hd_ (W6.out.turn hq9 hk9 hs9)
       have P9:=hd_ hp10
       clear hq9 hk9 hs9 hp9 hp10 ea
       go_wp2_with fail
       go_roundw
       case rel=>exact ⟨k+1,_,_,_,_,_,L9,by omega,by go_num,by rw [HMN2.out];go_num,W9.out,E7.out.ready HFF.out HZ.out P9.out⟩
       case measure=>simp [intOf];omega
      ·have HZ:=hd_ (show cnt (edTo P.I P.bs (k+1)) [] k≠0 by rw [<- hwt];exact hz)
       have hz':((Wt2.getD k 0:Int)==0)=false:=by simp only [beq_eq_false_iff_ne];omega
       generalize Wt2.getD k 0=wv at e0 hz'
       clear hE7 e hwt hmn f0 hz
       go_wp2_with fail
       go_roundw
       case rel=>exact ⟨k+1,_,_,_,_,_,L,by omega,by go_num,by rw [HMN2.out];go_num,W6.out,E7.out.skip (.inr HZ.out)⟩
       case measure=>simp [intOf];omega
     obtain ⟨ad,hbA,-,cx⟩:=(HROW.out.later W6.out.below).int hjl
     subst hbA
     have hg:bl.getD j 0=bl[j]:=by rw [List.getD_eq_getElem?_getD,List.getElem?_eq_getElem hjl];rfl
     rw [hg] at cx
     have hx:=any_bad_no HBOK.out.2.1 bl[j] (List.getElem_mem hjl)
     have htk:edB P.I P.bs k (bl.take (j+1))=edB P.I P.bs k (bl.take j)++edOf P.I P.bs k bl[j]:=by
      unfold edB;rw [List.take_succ_eq_append_getElem hjl,List.flatMap_append];simp
     have HTK:=hd_ htk
     clear htk hg
     generalize bl[j]=x at cx hx HTK
     have hx2:x<P.I+(n:Int):=by have:=hx.2;unfold PK.N at this;rw [HN.out] at this;exact this
     have hx1:=hx.1
     clear hx
     have b0:wr.cell? ⟨w.heap.size,0,none⟩=some (.int .i64 P.I):=W6.out.box.cell 0
     have b1:wr.cell? ⟨w.heap.size,1,none⟩=some (.slice (some a) n P.cB):=by have:=W6.out.box.cell 1;rw [HAB.out,HN.out] at this;exact this
     by_cases hneg:x<P.I
     ·have he:edOf P.I P.bs k x=[]:=by unfold edOf;rw [if_neg (fun h=>by omega)]
      have HE:=hd_ he
      have hneg':¬ P.I<=x:=by omega
      clear he
      go_wp2_with fail
      go_roundw
      case rel=>exact ⟨j+1,f2,Wt2,Bs2,by omega,by go_num,W6.out,by rw [HTK.out,HE.out,List.append_nil];exact E6.out⟩
      case measure=>simp [intOf];omega
     obtain ⟨q,hq,hqn⟩:=int_sub_nat hneg hx2
     have hqb:q<P.bs.length:=by rw [HN.out];omega
     obtain ⟨a',hA,-,-,-,d2,-⟩:=(HIN.out.blocks.later W6.out.below).block hqb
     rw [HAB.out] at hA
     obtain rfl:=Option.some.inj hA
     rw [<- ffAt_get hqb] at d2
     have hpi:P.I<=x:=by omega
     have HQ:=hd_ hq
     have hqn':q<n:=by omega
     have hto:(x-P.I).toNat=q:=by omega
     have HTO:=hd_ hto
     clear hA hto
     cases hfq:ffAt P.bs q with
     | true =>
      have he:edOf P.I P.bs k x=[]:=by unfold edOf;rw [HTO.out,if_neg (fun h=>by have:=h.2;rw [hfq] at this;cases this)]
      have HE:=hd_ he
      rw [hfq] at d2
      clear he hfq
      go_wp2_with fail
      go_roundw
      case rel=>exact ⟨j+1,f2,Wt2,Bs2,by omega,by go_num,W6.out,by rw [HTK.out,HE.out,List.append_nil];exact E6.out⟩
      case measure=>simp [intOf];omega
     | false =>
      have he:edOf P.I P.bs k x=[(q,k)]:=by unfold edOf;rw [HTO.out,if_pos ⟨by omega,hfq⟩]
      have HE:=hd_ he
      rw [hfq] at d2
      clear he hfq
      obtain ⟨e0,f0⟩:=W6.out.waitCell hlt
      have hwt:=E6.out.wt k hlt
      have HWT:=hd_ hwt
      clear hwt
      have hwv:Wt2.getD k 0<=4:=by rw [HWT.out];exact Nat.le_trans (cnt_now _ _ _ _) (by rw [List.length_take];omega)
      generalize Wt2.getD k 0=wv at e0 HWT hwv
      have hw7:=W6.out.waitSet (k:=k) (wv+1)
      rw [show ((wv+1:Nat):Int)=(wv:Int)+1 by omega] at hw7
      have W7:=hd_ hw7
      clear hw7
      obtain ⟨bq,hbq,e1,f1⟩:=W7.out.rowCell hqn'
      obtain ⟨qA,qc,ql⟩:=bq
      have hbq':Bs2[q]? = some (qA,qc,ql):=hbq
      have HBQ:=hd_ hbq'
      have W8:=hd_ (W7.out.keep (bn_ _ (.cells #[.int .i64 (k:Int)] 3)))
      have hqo:=(W8.out.inner q _ hbq').own
      have HQO:=hd_ hqo
      have hqb':=E6.out.rows q _ hbq'
      have hql:ql.length<=10000:=by rw [show ql=_ from hqb'];exact beh_now H.out k j q bl (by omega) hbl4
      have HQB:=hd_ hqb'
      clear hqb'
      simp only [rowV] at e1
      have hgbl:=W6.out.gbl
      have hgb1:=hgbl.2
      have hwsz:=W6.out.size
      clear hbq hbq' hqo hgbl
      go_wp2_with (at_builtin;refine wpList_append_own_at _ rfl (.tmp 73) (.tmp 75) 25 rfl w.heap.size 3 i0 (.int .i64 0) 1 8 Tryz.underlying25 HI0.out HZ0.out HZ1.out HZ2.out rfl (by decide) (.slice qA ql.length qc) ql.length (ints (natI ql)) rfl HQO.out ⟨wr.heap.size,0,none⟩ 1 1 [.int .i64 (k:Int)] rfl rfl ?c1 ?c2 ?c3 ?c4 ?c5 ?_)
      (try (case c1=>exact new_cells _ _ _))
      case c2=>first|rfl|(intro u hu;simp at hu;rcases hu with rfl;rfl)
      case c3=>unfold maxLen;omega
      case c4=>omega
      case c5=>first|omega|(simp;omega)
      intro v' w9 hown9 hg9 hnil9 hat9
      obtain ⟨qB,qd,rfl⟩:=own_slice hown9
      have hz8:((wr.setCell ⟨gw,k,none⟩ (.int .i64 ((wv:Int)+1))).alloc (.cells #[.int .i64 (k:Int)] 3)).heap.size=wr.heap.size+1:=by simp
      have W9:=hd_ (W8.out.innerTurn' k HBQ.out hown9 hg9 (by rw [hz8];exact hat9))
      obtain ⟨e9,f9⟩:=W8.out.rowCellG HBQ.out (by rw [<- own_blk qA ql.length qc];exact hg9)
      simp only [rowV] at e9
      have E9:=hd_ (E6.out.edge W6.out.wl hlt (v:=wv+1) (by rw [HWT.out]) HBQ.out (b':=(qB,qd,ql++[k])) rfl)
      clear hown9 hg9 hat9 hnil9 hz8 e1 f1 e0 f0 W8 W7 HQO b0 b1 d2 cx
      go_wp2_with fail
      go_roundw
      case rel=>exact ⟨j+1,_,_,_,by omega,by go_num,W9.out,by rw [HTK.out,HE.out,<- List.append_assoc];exact E9.out⟩
      case measure=>simp [intOf];omega
end Go.Proofs.YtmkiphadkmodnaaGreat
namespace Go.Proofs.YtmkiphadkmodnaaGreat
open Go.RowKit Topo
def ChkR (P:PK) (x:Int):Prop:=(x=0∧P.may∧∃ m,All (depE P.E) P.S m)∨(x=1∧¬ P.may)∨(x=321∧P.may∧∀ m,¬ All (depE P.E) P.S m)
theorem ChkR.one {P:PK} {x y:Int} (h:ChkR P x) (k:ChkR P y):x=y:=by
 rcases h with ⟨rfl,h1,m,h2⟩|⟨rfl,h1⟩|⟨rfl,h1,h2⟩ <;> rcases k with ⟨rfl,k1,n,k2⟩|⟨rfl,k1⟩|⟨rfl,k1,k2⟩
 all_goals first|rfl|exact absurd ‹PK.may P› ‹¬ PK.may P›|exact absurd k2 (h2 _)|exact absurd h2 (k2 _)
def PchkOut (P:PK) (w:World) (e:Ending) (w':World):Prop:=∃ x,e=.returned (.int .i64 x)∧ChkR P x∧Below w.heap.size w w'
theorem pchk_any (P:PK) (w:World) (hin:P.In w) (hf:P.fit):Calls Tryz.prog 94 #[.agg #[.int .i64 P.I,.slice P.AB P.bs.length P.cB,.slice P.AO P.outs.length P.cO]] w (PchkOut P w):=by
 have T0:=hd_ (MW.new w P)
 have HI:=hd_ (hin.later (bn_ w (.cells #[.int .i64 P.I,.slice P.AB P.bs.length P.cB,.slice P.AO P.outs.length P.cO] 27)))
 have HF:=hd_ hf
 clear hin hf
 by_cases hm:P.may
 ·have ho:=order_yes P _ HI.out HF.out hm
  unfold ORD at ho
  have HO:=hd_ ho
  have HM:=hd_ hm
  clear ho hm
  go_enter Tryz.func94,Tryz.ntmps94
  go_wp2_with fail
  refine HO.out.mono ?_
  rintro e w1 (⟨A,c,O,rfl,hA,hb,-⟩|⟨rfl,hA,hb⟩)
  ·have T1:=hd_ (T0.out.keep hb)
   have HA:=hd_ hA
   clear hb hA
   go_wp2_with fail
   go_ret
   exact ⟨0,rfl,.inl ⟨rfl,HM.out,O,HA.out⟩,T1.out.below⟩
  ·have T1:=hd_ (T0.out.keep hb)
   have HA:=hd_ hA
   clear hb hA
   go_wp2_with fail
   go_ret
   exact ⟨321,rfl,.inr (.inr ⟨rfl,HM.out,HA.out⟩),T1.out.below⟩
 ·have ho:=order_no P _ HI.out HF.out hm
  unfold ORD at ho
  have HO:=hd_ ho
  have HM:=hd_ hm
  clear ho hm
  go_enter Tryz.func94,Tryz.ntmps94
  go_wp2_with fail
  refine HO.out.mono ?_
  rintro e w1 ⟨rfl,hb⟩
  have T1:=hd_ (T0.out.keep hb)
  clear hb
  go_wp2_with fail
  go_ret
  exact ⟨1,rfl,.inr (.inl ⟨rfl,HM.out⟩),T1.out.below⟩
end Go.Proofs.YtmkiphadkmodnaaGreat
namespace Go.Proofs.YtmkiphadkmodnaaGreat.Topo
def pk (l:List Nat) (t:Nat):Nat->Nat
 | 0=>0
 | j+1=>pk l t j+t/2 ^ l.getD j 0%2*2 ^ j
def sel (n k:Nat):List Nat:=(List.range (2 ^ n)).filter fun i=>i/2 ^ k%2==0
def wo:Nat->List Int->Nat->List Int × Nat
 | 0,l,t=>(l,t)
 | f+1,l,t=>match l.findIdx? (fun x=>decide (x=0)) with
  | none=>(l,t)
  | some k=>wo f (l.eraseIdx k) (pk (sel l.length k) t (sel l.length k).length)
end Go.Proofs.YtmkiphadkmodnaaGreat.Topo
namespace Go.Proofs.YtmkiphadkmodnaaGreat
open Go.RowKit Topo
theorem i64_and_nat (a b:Nat) (ha:a<9223372036854775808) (hb:b<9223372036854775808):bits .and .i64 (a:Int) (b:Int)=((a &&& b:Nat):Int):=by
 have e:bits .and .i64 (a:Int) (b:Int)=IntKind.i64.wrap ((BitVec.ofInt 64 (a:Int) &&& BitVec.ofInt 64 (b:Int)).toNat:Int):=rfl
 have e1:(BitVec.ofInt 64 (a:Int)).toNat=a:=by simp;omega
 have e2:(BitVec.ofInt 64 (b:Int)).toNat=b:=by simp;omega
 have h:a &&& b<=a:=Nat.and_le_left
 rw [e,BitVec.toNat_and,e1,e2,IntWalk.i64_in _ (by omega)]
theorem i64_or_nat (a b:Nat) (ha:a<4611686018427387904) (hb:b<4611686018427387904):bits .or .i64 (a:Int) (b:Int)=((a ||| b:Nat):Int):=by
 have e:bits .or .i64 (a:Int) (b:Int)=IntKind.i64.wrap ((BitVec.ofInt 64 (a:Int) ||| BitVec.ofInt 64 (b:Int)).toNat:Int):=rfl
 have e1:(BitVec.ofInt 64 (a:Int)).toNat=a:=by simp;omega
 have e2:(BitVec.ofInt 64 (b:Int)).toNat=b:=by simp;omega
 have h:a ||| b<2 ^ 62:=Nat.or_lt_two_pow (by omega) (by omega)
 rw [e,BitVec.toNat_or,e1,e2,IntWalk.i64_in _ (by omega)]
theorem bit_set (n k:Nat) (hn:n<2 ^ k) (hk:k<61):bits .or .i64 (n:Int) ((2 ^ k:Nat):Int)=((n+2 ^ k:Nat):Int):=by
 have h2:2 ^ k<=2 ^ 60:=Nat.pow_le_pow_right (by omega) (by omega)
 rw [i64_or_nat n (2 ^ k) (by omega) (by omega)]
 rw [Nat.or_two_pow_eq_add_of_lt hn]
theorem shl_nat (k:Nat) (hk:k<62):wrap64 ((2:Int) ^ k)=((2 ^ k:Nat):Int):=by
 have h2:2 ^ k<=2 ^ 61:=Nat.pow_le_pow_right (by omega) (by omega)
 have e:((2:Int) ^ k)=((2 ^ k:Nat):Int):=by rw [Int.natCast_pow];rfl
 rw [e]
 generalize 2 ^ k=p at h2
 unfold wrap64;omega
theorem Row.grown {w w':World} {base nm nm' c c':Nat} {f:Nat->Nat} {A A':Option Addr} {l l':List Nat} (h:Row w base f nm A c l) (o:Row w base f nm' A' c' l') (hne:nm'≠nm) (hg:w.grownBy w' (Value.slice A l.length c).ownBlock):Row w' base (named f w.heap.size nm) nm' A' c' l':=by
 rw [own_blk] at hg
 exact o.chg (Chg.of_grown hg) (fun g _ hn e=>by have:=h.name g e.symm;omega) (fun g hg=>named_old f hg)
theorem Row.next {w w':World} {base nm c:Nat} {f:Nat->Nat} {A:Option Addr} {l:List Nat} (h:Row w base f nm A c l) {qB:Option Addr} {qd:Nat} {x:Nat} (hr:w'.ownsRow base 3 1 (.slice qB (l.length+1) qd) (l.length+1) (ints (natI l)++[.int .i64 (x:Int)]))
  (hs:(Value.slice qB (l.length+1) qd).ownBlock=(Value.slice A l.length c).ownBlock∨(Value.slice qB (l.length+1) qd).ownBlock=some w.heap.size):Row w' base (named f w.heap.size nm) nm qB qd (l++[x]):=by
 rw [own_blk,own_blk] at hs
 have e2:ints (natI (l++[x]))=ints (natI l)++[.int .i64 (x:Int)]:=by simp [ints,natI]
 exact ⟨by rw [e2];simpa using hr,named_new h.name (fun g hg=>(h.lt hg).2) (hs.imp id fun h g hg=>by rw [h] at hg;injection hg with hg;omega)⟩
theorem Row.blk {w w':World} {base nm c g:Nat} {f:Nat->Nat} {A:Option Addr} {l:List Nat} {t:TypeId} {cs:Array Value} (h:Row w base f nm A c l) (hb:Blk w g t cs) (ht:3≠t) (hg:w.grownBy w' (Value.slice A l.length c).ownBlock):Blk w' g t cs :=
 hb.grown hg (fun e=>own_other h.own hb ht e.symm)
structure KW (w0 wx:World) (t:Int) (ff it:Bool) (f:Nat->Nat) (AK:Option Addr) (cK:Nat) (kp:List Nat) (AI:Option Addr) (cI:Nat) (ip:List Nat) (T:Int):Prop where
 below:Below w0.heap.size w0 wx
 tile:Blk wx w0.heap.size 65 #[.int .i64 t,.bool ff,.bool it]
 res:Blk wx (w0.heap.size+1+1) 62 #[.slice none 0 0,.int .i64 0,.bool false,.bool false]
 b:Blk wx (w0.heap.size+1+1+1) 62 #[.slice AI ip.length cI,.int .i64 T,.bool ff,.bool it]
 kept:Row wx (w0.heap.size+1+1+1+1) f 0 AK cK kp
 ins:Row wx (w0.heap.size+1+1+1+1) f 1 AI cI ip
section
variable {w0 wx wy : World} {t T : Int} {ff it : Bool} {f : Nat → Nat} {AK AI : Option Addr} {cK cI : Nat} {kp ip : List Nat}
theorem KW.keep (h:KW w0 wx t ff it f AK cK kp AI cI ip T) (hb:Below wx.heap.size wx wy):KW w0 wy t ff it f AK cK kp AI cI ip T :=
 ⟨bt_ h.below hb,h.tile.keep hb,h.res.keep hb,h.b.keep hb,h.kept.keep hb,h.ins.keep hb⟩
theorem KW.start (w:World) (t:Int) (ff it:Bool) (cs:Array Value) (ty:TypeId):KW w ((((w.alloc (.cells #[.int .i64 t,.bool ff,.bool it] 65)).alloc (.cells cs ty)).alloc (.cells #[.slice none 0 0,.int .i64 0,.bool false,.bool false] 62)).alloc (.cells #[.slice none 0 0,.int .i64 0,.bool ff,.bool it] 62)) t ff it (fun _=>0) none 0 [] none 0 [] 0:=by
 have z1:(w.alloc (.cells #[.int .i64 t,.bool ff,.bool it] 65)).heap.size=w.heap.size+1:=by simp
 have z2:((w.alloc (.cells #[.int .i64 t,.bool ff,.bool it] 65)).alloc (.cells cs ty)).heap.size=w.heap.size+1+1:=by simp
 have z3:(((w.alloc (.cells #[.int .i64 t,.bool ff,.bool it] 65)).alloc (.cells cs ty)).alloc (.cells #[.slice none 0 0,.int .i64 0,.bool false,.bool false] 62)).heap.size=w.heap.size+1+1+1:=by simp
 refine ⟨bt_ (bt_ (bt_ (bn_ _ _) (bn_ _ _)) (bn_ _ _)) (bn_ _ _),(((Blk.made w _ _).alloc _).alloc _).alloc _,?_,?_,⟨World.ownsRow_nil _ _ _ _,fun g h=>by cases h⟩,⟨World.ownsRow_nil _ _ _ _,fun g h=>by cases h⟩⟩
 ·rw [<- z2];exact (Blk.made _ _ _).alloc _
 ·rw [<- z3];exact Blk.made _ _ _
theorem Row.apart {w:World} {base nm c g:Nat} {f:Nat->Nat} {A:Option Addr} {l:List Nat} {t:TypeId} {cs:Array Value} (h:Row w base f nm A c l) (hb:Blk w g t cs) (ht:3≠t) (i:Nat) (v:Value):Row (w.setCell ⟨g,i,none⟩ v) base f nm A c l :=
 ⟨ownsRow_setCell_other h.own (a:=⟨g,i,none⟩) (own_other h.own hb ht) v,h.name⟩
theorem KW.setT (h:KW w0 wx t ff it f AK cK kp AI cI ip T) (T':Int):KW w0 (wx.setCell ⟨w0.heap.size+1+1+1,1,none⟩ (.int .i64 T')) t ff it f AK cK kp AI cI ip T':=by
 refine ⟨h.below.setCell (p:=⟨w0.heap.size+1+1+1,1,none⟩) (show w0.heap.size<=w0.heap.size+1+1+1 by omega) _,h.tile.apart (show w0.heap.size≠w0.heap.size+1+1+1 by omega) _,h.res.apart (show w0.heap.size+1+1≠w0.heap.size+1+1+1 by omega) _,?_,h.kept.apart h.b (by decide) _ _,h.ins.apart h.b (by decide) _ _⟩
 have:=h.b.put 1 (.int .i64 T')
 simpa using this
theorem KW.drew (h:KW w0 wx t ff it f AK cK kp AI cI ip T) (n:Nat):KW w0 (wx.drewN n) t ff it f AK cK kp AI cI ip T:=h.keep (below_drewN br_ n)
theorem KW.lt (h:KW w0 wx t ff it f AK cK kp AI cI ip T):w0.heap.size+1+1+1<wx.heap.size:=h.b.lt
end
theorem own_base_le {w:World} {base base':Nat} {e:TypeId} {size n:Nat} {v:Value} {xs:List Value} (h:w.ownsRow base e size v n xs) (hb:base'<=base):w.ownsRow base' e size v n xs:=⟨h.1,by
 rcases h.2 with h'|⟨g,cap,cur,a1,a2,a3⟩
 ·exact .inl h'
 ·exact .inr ⟨g,cap,cur,a1,by omega,a3⟩⟩
end Go.Proofs.YtmkiphadkmodnaaGreat
namespace Go.Proofs.YtmkiphadkmodnaaGreat
open Go.RowKit Topo
end Go.Proofs.YtmkiphadkmodnaaGreat
