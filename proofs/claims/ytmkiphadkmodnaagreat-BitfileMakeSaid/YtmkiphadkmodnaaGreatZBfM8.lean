/- BfM, 8 -/
import Derived.Laws.Entries
import Derived.Laws.AppendOwnNone
import Derived.Test.YtmkiphadkmodnaaGreatZBfM7
import Derived.Test.YtmkiphadkmodnaaGreatZBfM1
import Derived.Test.YtmkiphadkmodnaaGreatZBfM0
import Derived.Test.YtmkiphadkmodnaaGreatZBfM2
set_option linter.all false
set_option maxRecDepth 100000
set_option maxHeartbeats 8000000
namespace Go.Proofs.YtmkiphadkmodnaaGreat
open Go.RowKit
theorem odd_any (t:Int) (ff init:Bool) (w:World) :
  Calls Tryz.prog 39 #[.agg #[.int .i64 t,.bool ff,.bool init]] w fun e w'=>e=.returned (.bool (oddB (t,ff,init)))∧Below w.heap.size w w':=by
 obtain ⟨o,ho⟩:∃ o,oddB (t,ff,init)=o:=⟨_,rfl⟩
 have HO:=hd_ ho
 rw [ho]
 clear ho
 by_cases h1:t<0
 ·go_enter Tryz.func39,Tryz.ntmps39
  go_wp2_with fail
  go_ret
  exact ⟨by rw [<- HO.out];simp [oddB,h1],bn_ w _⟩
 ·by_cases h2:65535<t
  ·go_enter Tryz.func39,Tryz.ntmps39
   go_wp2_with fail
   go_ret
   exact ⟨by rw [<- HO.out];simp [oddB,h2],bn_ w _⟩
  ·cases init <;> cases ff
   all_goals
    go_enter Tryz.func39,Tryz.ntmps39
    go_wp2_with fail
    go_ret
    exact ⟨by rw [<- HO.out];simp [oddB,h1,h2],bn_ w _⟩
theorem index_odd (w:World) (A:Option Addr) (n c:Nat) (l:List TL) (h:Rd w 3 A n c (tiles3 l)) (hn:n<=100000000) :
  Calls Tryz.prog 93 #[.slice A n c,.func (.func 39) #[] #[]] w fun e w'=>∃ i:Int,e=.returned (.int .i64 i)∧(0<=i↔l.any oddB=true)∧Below w.heap.size w w':=by
 have hl:n=l.length:=by have:=h.len;rw [tiles3_length] at this;omega
 have HL:=hd_ hl
 have HR:=hd_ h
 clear hl h
 go_enter Tryz.func93,Tryz.ntmps93
 go_wp2_with fail
 go_loopw [8] (fun i wx=>∃ k:Nat,k<=n∧i=.int .i64 (k:Int)∧Below w.heap.size w wx∧(l.take k).any oddB=false) (fun i _=>n-(intOf i).toNat)
 case atStart=>exact ⟨0,by omega,rfl,br_,by simp⟩
 case round =>
  obtain ⟨k,hk,rfl,hb,hno⟩:=hrel
  have HB:=hd_ hb
  have HN:=hd_ hno
  clear hb hno
  by_cases hlt:k<n
  ·obtain ⟨a,rfl,hab,c0,c1,c2⟩:=(HR.out.later HB.out).tile hlt
   have hk':k<l.length:=by rw [<- HL.out];exact hlt
   have htk:(l.take (k+1)).any oddB=((l.take k).any oddB||oddB l[k]!):=by
    rw [List.take_succ_eq_append_getElem hk',List.any_append,getElem!_pos l k hk'];simp
   have hmem:oddB l[k]! = true->l.any oddB=true:=fun hx=>List.any_eq_true.2 ⟨l[k]!,by rw [getElem!_pos l k hk'];exact List.getElem_mem hk',hx⟩
   have HT:=hd_ htk
   have HM:=hd_ hmem
   clear htk hmem
   generalize l[k]! = t at c0 c1 c2 HT HM
   obtain ⟨t1,t2,t3⟩:=t
   simp only at c0 c1 c2
   go_wp2_with fail
   refine (odd_any _ _ _ _).mono ?_
   rintro e w1 ⟨rfl,hb1⟩
   have HB1:=hd_ (bt_ HB.out hb1)
   clear hb1
   cases ho:oddB (t1,t2,t3) with
   | true =>
    go_wp2_with fail
    go_ret
    exact ⟨(k:Int),rfl,⟨fun _=>HM.out ho,fun _=>by omega⟩,HB1.out⟩
   | false =>
    go_wp2_with fail
    go_roundw
    case rel=>exact ⟨k+1,by omega,by go_num,HB1.out,by rw [HT.out,HN.out,ho];rfl⟩
    case measure=>simp [intOf];omega
  ·obtain rfl:k=n:=by omega
   go_wp2_with fail
   go_ret
   refine ⟨-1,rfl,⟨fun h=>absurd h (by omega),fun h=>?_⟩,HB.out⟩
   have:=HN.out
   rw [List.take_of_length_le (by rw [<- HL.out];exact Nat.le_refl _)] at this
   rw [this] at h
   cases h
theorem contains_odd (w:World) (A:Option Addr) (n c:Nat) (l:List TL) (h:Rd w 3 A n c (tiles3 l)) (hn:n<=100000000) :
  Calls Tryz.prog 41 #[.slice A n c,.func (.func 39) #[] #[]] w fun e w'=>e=.returned (.bool (l.any oddB))∧Below w.heap.size w w':=by
 have HR:=hd_ h
 clear h
 go_enter Tryz.func41,Tryz.ntmps41
 go_wp2_with fail
 refine (index_odd _ _ _ _ _ HR.out hn).mono ?_
 rintro e w1 ⟨i,rfl,hi,hb1⟩
 have HI:=hd_ hi
 clear hi
 by_cases h0:0<=i
 ·go_wp2_with fail
  go_ret
  exact ⟨by rw [HI.out.1 h0];rfl,hb1⟩
 ·have hd:decide (0<=i)=false:=decide_eq_false h0
  go_wp2_with fail
  go_ret
  have:l.any oddB=false:=by cases ha:l.any oddB with
   | false=>rfl
   | true=>exact absurd (HI.out.2 ha) (by omega)
  exact ⟨by rw [this];rfl,hb1⟩
end Go.Proofs.YtmkiphadkmodnaaGreat
namespace Go.Proofs.YtmkiphadkmodnaaGreat
open Go.RowKit
theorem bool_zero:(Tryz.prog.info? 4).map (fun i=>(i.zero,i.size,i.bytes))=some (some (.bool false),1,1):=by kernel_rfl
theorem bools_set (M:List Bool) (k:Nat) (b:Bool):(bools M).set k (.bool b)=bools (M.set k b):=by simp [bools,List.map_set]
theorem bools_replicate (N:Nat) (b:Bool):List.replicate N (Value.bool b)=bools (List.replicate N b):=by simp [bools]
theorem getD_setB (l:List Bool) (i j:Nat) (h:i<l.length) (b:Bool):(l.set i b).getD j false=if i=j then b else l.getD j false:=by
 simp only [List.getD_eq_getElem?_getD,List.getElem?_set]
 by_cases e:i=j
 ·subst e;simp [h]
 ·simp [e]
structure BW (w0 wx:World) (C:Cfg) (g N:Nat) (M:List Bool) (A:Option Addr) (n c base:Nat) (P:List Int):Prop where
 below:Below w0.heap.size w0 wx
 box:Box7 wx w0.heap.size C
 there:wx.ownsRow g 4 1 (.slice (some ⟨g,0,none⟩) N N) N (bools M)
 pads:wx.ownsRow base 3 1 (.slice A n c) n (ints P)
 hg:w0.heap.size<g
 hb:g<base
section
variable {w0 wx wy : World} {C : Cfg} {g N : Nat} {M : List Bool} {A : Option Addr} {n c base : Nat} {P : List Int}
theorem BW.keep (h:BW w0 wx C g N M A n c base P) (hb:Below wx.heap.size wx wy):BW w0 wy C g N M A n c base P :=
 ⟨bt_ h.below hb,h.box.below hb,own_keep h.there hb,own_keep h.pads hb,h.hg,h.hb⟩
theorem BW.store (h:BW w0 wx C g N M A n c base P) (k:Nat) (b:Bool):BW w0 (wx.setCell ⟨g,k,none⟩ (.bool b)) C g N (M.set k b) A n c base P:=by
 have hb:=h.below.setCell (p:=⟨g,k,none⟩) (Nat.le_of_lt h.hg) (.bool b)
 have hx:=h.box
 have hgn:w0.heap.size≠g:=by have:=h.hg;omega
 have hne:∀ j:Nat,(wx.setCell ⟨g,k,none⟩ (.bool b)).cell? ⟨w0.heap.size,j,none⟩=wx.cell? ⟨w0.heap.size,j,none⟩:=fun j=>World.cell?_setCell_other _ _ _ _ (fun e=>hgn (by injection e with e1;exact e1.symm))
 refine ⟨hb,⟨by simpa using hx.lt,(hne 0).trans hx.c0,(hne 1).trans hx.c1,(hne 2).trans hx.c2,(hne 3).trans hx.c3,(hne 4).trans hx.c4,(hne 5).trans hx.c5,(hne 6).trans hx.c6⟩,?_,?_,h.hg,h.hb⟩
 ·rw [<- bools_set];exact (h.there.stored k (.bool b)).1
 ·exact ownsRow_setCell_other h.pads (fun e=>by have:=(h.pads.lt _ e).1;have:=h.hb;simp only at *;omega) _
theorem BW.cell (h:BW w0 wx C g N M A n c base P) {k:Nat} (hk:k<N):wx.cell? ⟨g,k,none⟩=some (.bool (M.getD k false))∧wx.frozen? ⟨g,k,none⟩=false:=by
 have hl:k<M.length:=by have:=h.there.1;rw [bools_length] at this;omega
 refine ⟨?_,h.there.frozenAt k⟩
 rw [h.there.cellAt k (by omega)]
 simp [bools,List.getD_eq_getElem?_getD,List.getElem?_eq_getElem hl]
end
structure Met (N:Nat) (P:List Int) (k:Nat) (M:List Bool):Prop where
 len:M.length=N
 ok:padsOk (N:Int) (P.take k)
 mem:∀ j:Nat,M.getD j false=true↔(j:Int) ∈ P.take k
theorem Met.start (N:Nat) (P:List Int):Met N P 0 (List.replicate N false) :=
 ⟨by simp,by simp [padsOk],fun j=>by
  simp only [List.getD_eq_getElem?_getD,List.getElem?_replicate,List.take_zero,List.not_mem_nil,iff_false]
  split <;> simp⟩
theorem Met.next {N:Nat} {P:List Int} {k p:Nat} {M:List Bool} (h:Met N P k M) (hk:k<P.length) (hp:P.getD k 0=(p:Int)) (hN:p<N) (hm:M.getD p false=false):Met N P (k+1) (M.set p true):=by
 have e:P.take (k+1)=P.take k++[(p:Int)]:=by
  rw [List.take_succ_eq_append_getElem hk,<- hp,List.getD_eq_getElem?_getD,List.getElem?_eq_getElem hk];rfl
 have hnot:¬ (p:Int) ∈ P.take k:=fun hx=>by rw [(h.mem p).2 hx] at hm;cases hm
 refine ⟨by simp [h.len],?_,fun j=>?_⟩
 ·rw [e]
  refine ⟨fun q hq=>?_,List.nodup_append.2 ⟨h.ok.2,by simp,fun a ha b hb=>?_⟩⟩
  ·rcases List.mem_append.1 hq with hq|hq
   ·exact h.ok.1 q hq
   ·simp at hq;subst hq;omega
  ·simp at hb;subst hb;rintro rfl;exact hnot ha
 ·rw [getD_setB M p j (by rw [h.len];exact hN),e,List.mem_append]
  by_cases hj:p=j
  ·subst hj;simp
  ·rw [if_neg hj,h.mem j]
   simp
   omega
theorem not_pads {N:Nat} {P:List Int} {k:Nat} {M:List Bool} (h:Met N P k M) (hk:k<P.length) (hbad:P.getD k 0<0∨(N:Int)<=P.getD k 0∨M.getD (P.getD k 0).toNat false=true):¬ padsOk (N:Int) P:=by
 have hx:P.getD k 0=P[k]:=by rw [List.getD_eq_getElem?_getD,List.getElem?_eq_getElem hk];rfl
 rw [hx] at hbad
 intro hok
 have hm:=hok.1 P[k] (List.getElem_mem hk)
 rcases hbad with hb|hb|hb
 ·omega
 ·omega
 ·have hmem:=(h.mem _).1 hb
  rw [Int.toNat_of_nonneg hm.1] at hmem
  have e:P=P.take k++P[k]::P.drop (k+1):=by rw [<- List.drop_eq_getElem_cons hk,List.take_append_drop]
  have hn:=hok.2
  rw [e] at hn
  exact (List.nodup_append.1 hn).2.2 P[k] hmem P[k] List.mem_cons_self rfl
def BCH (C:Cfg) (w:World) (v:Int):Prop :=
 Calls Tryz.prog 14 #[.agg #[.int .i64 C.W,.int .i64 C.H,.int .i64 C.T,.slice C.AT C.tiles.length C.cT,.slice C.AO C.on.length C.cO,.slice C.AI C.ins.length C.cI,.slice C.AU C.outs.length C.cU]] w fun e w'=>e=.returned (.int .i64 v)∧Below w.heap.size w w'
theorem bcheck_no (C:Cfg) (w:World) (h:¬ okA C.W C.H C.T):BCH C w 1:=by
 unfold BCH
 have Q0:=bn_ w (.cells #[.int .i64 C.W,.int .i64 C.H,.int .i64 C.T,.slice C.AT C.tiles.length C.cT,.slice C.AO C.on.length C.cO,.slice C.AI C.ins.length C.cI,.slice C.AU C.outs.length C.cU] 37)
 go_enter Tryz.func14,Tryz.ntmps14
 go_wp2_with fail
 refine (check_no _ _ _ _ h).mono ?_
 rintro e w1 ⟨rfl,hb1⟩
 have Q1:=bt_ Q0 hb1
 clear hb1
 go_wp2_with fail
 go_ret
 exact ⟨rfl,Q1⟩
theorem bcheck_yes (C:Cfg) (w:World) (hin:C.In w) (hf:C.few) (h:okA C.W C.H C.T):BCH C w C.E:=by
 have hE0:padsOk (2*C.W+2*C.H) (C.ins++C.outs)->(C.tiles.length:Int)=C.W*C.H->C.on.length=(edgesL C.W C.H C.T).length->C.tiles.any oddB=false->C.E=0:=fun a b c d=>if_pos ⟨h,a,b,c,d⟩
 have hE1:¬ (padsOk (2*C.W+2*C.H) (C.ins++C.outs)∧(C.tiles.length:Int)=C.W*C.H∧C.on.length=(edgesL C.W C.H C.T).length∧C.tiles.any oddB=false)->C.E=1:=fun hx=>if_neg fun hy=>hx hy.2
 obtain ⟨EE,hEE⟩:∃ v,C.E=v:=⟨_,rfl⟩
 rw [hEE] at hE0 hE1
 rw [hEE]
 clear hEE
 have HE0:=hd_ hE0
 have HE1:=hd_ hE1
 clear hE0 hE1
 have hh:=h
 unfold okA at hh
 have hpb:padsO C.W C.H C.T=2*C.W+2*C.H:=by unfold padsO;rw [if_pos h]
 obtain ⟨N,hN⟩:∃ N:Nat,2*C.W+2*C.H=(N:Int):=⟨(2*C.W+2*C.H).toNat,by omega⟩
 have hN2:N<=64:=by omega
 have HN:=hd_ hN
 have HPB:=hd_ hpb
 obtain ⟨P,hP⟩:∃ P,C.ins++C.outs=P:=⟨_,rfl⟩
 have hPl:P.length=C.ins.length+C.outs.length:=by rw [<- hP,List.length_append]
 have HP:=hd_ hP
 have HPL:=hd_ hPl
 have HI:=hd_ hin
 have HF:=hd_ hf
 have HH:=hd_ h
 unfold Cfg.few at hf
 have hPs:P.length<=10000:=by omega
 have hel:=rawL_len h
 have hel2:(edgesL C.W C.H C.T).length<=6000000:=by unfold edgesL;rw [sortP_length];exact hel
 have m1:=mul_bd (a:=C.W) (b:=C.H) (A:=16) (B:=16) (by omega) (by omega) (by omega) (by omega)
 obtain ⟨LL,hLL⟩:∃ LL,edgesL C.W C.H C.T=LL:=⟨_,rfl⟩
 have HLL:=hd_ hLL
 rw [hLL] at hel2
 clear hel hN hpb hP hPl hin h hLL hh
 have Q0:=bn_ w (.cells #[.int .i64 C.W,.int .i64 C.H,.int .i64 C.T,.slice C.AT C.tiles.length C.cT,.slice C.AO C.on.length C.cO,.slice C.AI C.ins.length C.cI,.slice C.AU C.outs.length C.cU] 37)
 have B0:=Box7.new w C 37
 unfold BCH
 go_enter Tryz.func14,Tryz.ntmps14
 go_wp2_with fail
 refine (check_yes _ _ _ _ HH.out).mono ?_
 rintro e w1 ⟨rfl,hb1⟩
 have Q1:=bt_ Q0 hb1
 have B1:=Box7.below B0 hb1
 clear hb1
 obtain ⟨z1,k10,k11,k12,k13,k14,k15,k16⟩:=id B1
 go_wp2_with fail
 refine (edges_yes _ _ _ _ HH.out).mono ?_
 rintro e w2 ⟨v,rfl,hb2,hown⟩
 rw [HLL.out] at hown
 obtain ⟨AA,c,hv⟩:=own_slice hown
 subst hv
 have Q2:=bt_ Q1 hb2
 have B2:=Box7.below B1 hb2
 clear hb2 hown B1 z1 k10 k11 k12 k13 k14 k15 k16
 obtain ⟨z2,k20,k21,k22,k23,k24,k25,k26⟩:=id B2
 go_wp2_with fail
 refine (pads_any _ _ _ _).mono ?_
 rintro e w3 ⟨rfl,hb3⟩
 rw [HPB.out,HN.out]
 have Q3:=bt_ Q2 hb3
 have B3:=Box7.below B2 hb3
 clear hb3 B2 z2 k20 k21 k22 k23 k24 k25 k26
 obtain ⟨i0,hi0,hz0,hz1,hz2⟩:=info_parts bool_zero
 have HI0:=hd_ hi0
 have HZ0:=hd_ hz0
 have HZ1:=hd_ hz1
 have HZ2:=hd_ hz2
 clear hi0 hz0 hz1 hz2
 go_wp2_with ((with_reducible refine wpList_make_full _ rfl (.tmp 24) (.tmp 24) 35 rfl w3.heap.size 4 i0 (.bool false) 1 Tryz.underlying35 HI0.out HZ0.out HZ1.out .i64 .i64 (N:Int) (N:Int) N rfl rfl rfl rfl ?c1 ?c2 (Nat.le_refl _) ?_))
 case c1=>rw [HZ2.out];omega
 case c2=>unfold maxLen;omega
 intro w4 hm4 hg4
 have hb4:Below w3.heap.size w3 w4:=br_.grown hg4 (Nat.le_refl _) (fun _ h=>by cases h)
 have Q4:=bt_ Q3 hb4
 have B4:=Box7.below B3 hb4
 rw [show (madeCells #[Value.bool false] N).toList=bools (List.replicate N false) by rw [<- bools_replicate];exact toList_madeCells_one _ _] at hm4
 have HM4:=hd_ hm4
 have hgl4:w3.heap.size<w4.heap.size:=(hm4.lt w3.heap.size rfl).2
 have hgt4:w.heap.size<w3.heap.size:=B3.lt
 clear hm4 hg4 hb4 Q3 B3
 obtain ⟨z4,k40,k41,k42,k43,k44,k45,k46⟩:=id B4
 go_wp2_with fail
 refine (concat_any _ _ _ 2 [(C.AI,C.cI,C.ins),(C.AU,C.cU,C.outs)] rfl ?h1 ?h2 (by omega) ?h3).mono ?_
 case h1 =>
  refine ⟨rfl,Nat.le_refl _,(fun hx=>by cases hx),?_⟩
  intro j u hj
  refine ⟨_,rfl,by simp,?_⟩
  rcases j with _|_|j
  ·simp [slv] at hj;subst hj;go_simp
  ·simp [slv] at hj;subst hj;go_simp
  ·simp [slv] at hj
 case h2 =>
  intro l hl
  have hin4:C.In (w4.alloc (.cells #[.slice C.AI C.ins.length C.cI,.slice C.AU C.outs.length C.cU] 25)):=HI.out.later (bt_ Q4 (bn_ _ _))
  simp only [List.mem_cons,List.not_mem_nil,or_false] at hl
  rcases hl with rfl|rfl
  ·exact hin4.ins
  ·exact hin4.outs
 case h3 =>
  have:cat [(C.AI,C.cI,C.ins),(C.AU,C.cU,C.outs)]=C.ins++C.outs:=by simp [cat]
  rw [this,HP.out];omega
 rintro e w5 ⟨A5,c5,rfl,hb5,hown5⟩
 rw [show cat [(C.AI,C.cI,C.ins),(C.AU,C.cU,C.outs)]=P by rw [<- HP.out];simp [cat]] at hown5 ⊢
 have hb5':=bt_ (bn_ w4 _) hb5
 obtain ⟨base5,R5⟩:∃ base5,BW w w5 C w3.heap.size N (List.replicate N false) A5 P.length c5 base5 P:=⟨_,BW.mk (bt_ Q4 hb5') (B4.below hb5') (own_keep HM4.out hb5') hown5 hgt4 (by simp;omega)⟩
 have R5:=hd_ R5
 have hM0:=hd_ (Met.start N P)
 clear hb5 hb5' hown5 Q4 B4 HM4 z4 k40 k41 k42 k43 k44 k45 k46
 go_wp2_with fail
 go_loopw [33] (fun i wx=>∃ (k:Nat) (M:List Bool),k<=P.length∧i=.int .i64 (k:Int)∧BW w wx C w3.heap.size N M A5 P.length c5 base5 P∧Met N P k M) (fun i _=>P.length-(intOf i).toNat)
 case atStart=>exact ⟨0,_,by omega,rfl,R5.out,hM0.out⟩
 case round =>
  clear R5 hM0
  obtain ⟨k,M,hk,rfl,hw,hmet⟩:=hrel
  have HW:=hd_ hw
  have HM:=hd_ hmet
  clear hw hmet
  by_cases hlt:k<P.length
  ·obtain ⟨a,rfl,hab,hcp⟩:=(Rd.of_own HW.out.pads).int hlt
   have hnot:=fun hb=>HE1.out (fun hx=>not_pads HM.out hlt hb (by rw [<- HP.out,<- HN.out];exact hx.1))
   have hnext:=fun p hp=>HM.out.next (p:=p) hlt hp
   have HNO:=hd_ hnot
   have HNX:=hd_ hnext
   clear hnot hnext
   generalize P.getD k 0=p at hcp HNO HNX
   by_cases hneg:p<0
   ·have he:EE=1:=HNO.out (.inl hneg)
    have HEE:=hd_ he
    clear he
    go_wp2_with fail
    go_ret
    exact ⟨by rw [HEE.out];rfl,HW.out.below⟩
   ·obtain ⟨p,rfl⟩:∃ q:Nat,p=(q:Int):=⟨p.toNat,by omega⟩
    by_cases hge:N<=p
    ·have he:EE=1:=HNO.out (.inr (.inl (by omega)))
     have HEE:=hd_ he
     have hd:decide (N<=p)=true:=decide_eq_true hge
     clear he
     go_wp2_with fail
     go_ret
     exact ⟨by rw [HEE.out];rfl,HW.out.below⟩
    ·obtain ⟨v0,f0⟩:=HW.out.cell (k:=p) (by omega)
     have hd:decide (N<=p)=false:=decide_eq_false hge
     cases hmp:M.getD p false with
     | true =>
      have he:EE=1:=HNO.out (.inr (.inr (by simpa using hmp)))
      have HEE:=hd_ he
      rw [hmp] at v0
      clear he hmp
      go_wp2_with fail
      go_ret
      exact ⟨by rw [HEE.out];rfl,HW.out.below⟩
     | false =>
      have hx:=HNX.out p rfl (by omega) hmp
      have HX:=hd_ hx
      rw [hmp] at v0
      clear hx hmp
      go_wp2_with fail
      go_roundw
      case rel=>exact ⟨k+1,_,by omega,by go_num,HW.out.store p true,HX.out⟩
      case measure=>simp [intOf];omega
  ·have hke:k=P.length:=by omega
   have hpo:padsOk (N:Int) P:=by have:=HM.out.ok;rw [List.take_of_length_le (by omega)] at this;exact this
   have HPO:=hd_ hpo
   obtain ⟨z,k0,k1,k2,k3,k4,k5,k6⟩:=HW.out.box
   clear hpo
   have hWH:IntKind.i64.wrap (C.W*C.H)=C.W*C.H:=IntWalk.i64_in _ (by omega)
   have HKE:=hd_ hke
   have hts:C.tiles.length<=1000:=HF.out.1
   clear hke
   go_wp2_with fail
   ·have H1:Hid ((C.tiles.length:Int)=C.W*C.H):=hd_ (by assumption)
    have H2:Hid ((C.on.length:Int)=(LL.length:Int)):=hd_ (by assumption)
    refine (contains_odd _ _ _ _ _ (HI.out.later HW.out.below).tiles (by omega)).mono ?_
    rintro e w6 ⟨rfl,hb6⟩
    have Q6:=bt_ HW.out.below hb6
    clear hb6
    cases ho:C.tiles.any oddB with
    | true =>
     have he:EE=1:=HE1.out (fun hx=>by rw [ho] at hx;exact absurd hx.2.2.2 (by simp))
     have HEE:=hd_ he
     clear he
     go_wp2_with fail
     go_ret
     exact ⟨by rw [HEE.out];rfl,Q6⟩
    | false =>
     have he:EE=0:=HE0.out (by rw [HN.out,HP.out];exact HPO.out) H1.out (by rw [HLL.out];have:=H2.out;omega) ho
     have HEE:=hd_ he
     clear he
     go_wp2_with fail
     go_ret
     exact ⟨by rw [HEE.out];rfl,Q6⟩
   ·have h2:¬ (C.on.length:Int)=(LL.length:Int):=by assumption
    have he:EE=1:=HE1.out (fun hx=>h2 (by rw [<- HLL.out];exact congrArg _ hx.2.2.1))
    have HEE:=hd_ he
    clear he h2
    go_ret
    exact ⟨by rw [HEE.out];rfl,HW.out.below⟩
   ·have h1:¬ (C.tiles.length:Int)=C.W*C.H:=by assumption
    have he:EE=1:=HE1.out (fun hx=>h1 hx.2.1)
    have HEE:=hd_ he
    clear he h1
    go_ret
    exact ⟨by rw [HEE.out];rfl,HW.out.below⟩
theorem bcheck_any (C:Cfg) (w:World) (hin:C.In w) (hf:C.few):BCH C w C.E:=by
 by_cases h:okA C.W C.H C.T
 ·exact bcheck_yes C w hin hf h
 ·have:C.E=1:=if_neg fun hx=>h hx.1
  rw [this]
  exact bcheck_no C w h
end Go.Proofs.YtmkiphadkmodnaaGreat
namespace Go.Proofs.YtmkiphadkmodnaaGreat
open Go.RowKit
section
variable {ops : Array Oper} {rest : List Oper} {o : Oper} {a : Act} {Q : Exit → Act → World → Prop}
theorem wpList_app_bools (hgd:o.guard=none) (s x:Operand) (ho:o.op=.call { callee:=.builtin .append,args:=#[s,x],argTypes:=#[35,35] })
  {W:World} (base:Nat) (A:Option Addr) (k c:Nat) (L:List Bool) (hs:a.eval s=.slice A k c) (O:W.ownsRow base 4 1 (.slice A k c) k (bools L)) (A2:Option Addr) (n d:Nat) (M:List Bool) (hx:a.eval x=.slice A2 n d) (hr:Rd W 1 A2 n d (bools M))
  (hk:k+n<=100000000) (hb:base<=W.heap.size)
  (h:∀ A' c' w',w'.ownsRow base 4 1 (.slice A' (k+n) c') (k+n) (bools (L++M))->W.grownBy w' (Value.slice A k c).ownBlock->wpList Tryz.prog ops Q rest (a.put o.dst (.slice A' (k+n) c')) w') :
  wpList Tryz.prog ops Q (o::rest) a W:=by
 obtain ⟨i0,hi0,hz0,hz1,hz2⟩:=info_parts bool_zero
 cases A2 with
 | none =>
  have hd:d=0:=hr.nil rfl
  have hn:n=0:=by have:=hr.cap;omega
  subst hd hn
  have hM:M=[]:=List.eq_nil_of_length_eq_zero (by have:=hr.len;rw [bools_length] at this;omega)
  subst hM
  refine wpList_append_own_none hgd s x 35 ho base 4 i0 1 Tryz.underlying35 hi0 (.slice A k c) k (bools L) hs O hx ?_
  exact h A c W (by simpa using O) (World.grownBy.refl W _)
 | some ad =>
  refine wpList_append_own _ hgd s x 35 ho base 4 i0 (.bool false) 1 1 Tryz.underlying35 hi0 hz0 hz1 hz2 rfl (by decide) (.slice A k c) k (bools L) hs O ad n d (bools M) hx (by have:=hr.len;exact this) ?_ ?_ ?_ ?_ ?_ ?_
  ·intro j u hj
   obtain ⟨a',e,-,hc⟩:=hr.read j u hj
   obtain rfl:=Option.some.inj e
   exact hc
  ·intro u hu
   obtain ⟨z,-,rfl⟩:=List.mem_map.1 hu
   rfl
  ·unfold maxLen;omega
  ·omega
  ·exact hb
  ·intro v' w' hown hg _
   obtain ⟨A',c',rfl⟩:=own_slice hown
   refine h A' c' w' ?_ hg
   have e:bools (L++M)=bools L++bools M:=by simp [bools]
   rw [e]
   exact hown
end
end Go.Proofs.YtmkiphadkmodnaaGreat
