/- BfM, 45 -/
import Derived.Test.YtmkiphadkmodnaaGreatZBfM44
import Derived.Test.YtmkiphadkmodnaaGreatZBfM0
set_option linter.all false
set_option maxRecDepth 100000
set_option maxHeartbeats 8000000
namespace Go.Proofs.YtmkiphadkmodnaaGreat
open Go.RowKit Go.Maps
abbrev oOf0:Oper:=⟨some 14,.move (.tmp 3),3,"route.go:52",#[],none⟩
abbrev oOf1:Oper:=⟨some 15,.makeSlice 35 (.tmp 14) (.tmp 14),35,"route.go:52",#[⟨0,.data⟩,⟨0,.data⟩],none⟩
abbrev oOf2:Oper:=⟨some 16,.move (.tmp 3),3,"route.go:52",#[],none⟩
abbrev oOf3:Oper:=⟨some 17,.makeSlice 93 (.tmp 16) (.tmp 16),93,"route.go:52",#[⟨2,.data⟩,⟨2,.data⟩],none⟩
abbrev oOf4:Oper:=⟨some 18,.fieldAddr 95 (.tmp 2) 0,0,"route.go:52",#[⟨0,.phase⟩,⟨1,.phase⟩,⟨2,.textOnly .lateStores⟩,⟨3,.textOnly .lateStoresUnsure⟩],none⟩
abbrev oOf5:Oper:=⟨none,.store 35 (.tmp 18) (.tmp 15),0,"route.go:52",#[⟨4,.data⟩,⟨1,.data⟩,⟨0,.phase⟩,⟨1,.phase⟩,⟨2,.textOnly .lateStores⟩,⟨3,.textOnly .lateStoresUnsure⟩],none⟩
abbrev oOf6:Oper:=⟨some 19,.fieldAddr 95 (.tmp 2) 2,0,"route.go:52",#[⟨0,.phase⟩,⟨1,.phase⟩,⟨2,.phase⟩,⟨3,.phase⟩,⟨4,.phase⟩,⟨5,.phase⟩],none⟩
abbrev oOf7:Oper:=⟨none,.store 93 (.tmp 19) (.tmp 17),0,"route.go:52",#[⟨6,.data⟩,⟨3,.data⟩,⟨5,.chain⟩,⟨0,.phase⟩,⟨1,.phase⟩,⟨2,.phase⟩,⟨3,.phase⟩,⟨4,.phase⟩,⟨5,.phase⟩],none⟩
abbrev oOf8:Oper:=⟨some 75,.fieldAddr 95 (.tmp 2) 2,0,"route.go:60",#[],none⟩
abbrev oOf9:Oper:=⟨some 76,.load 93 (.tmp 75),93,"route.go:60",#[⟨0,.data⟩],none⟩
abbrev oOf10:Oper:=⟨some 77,.indexAddr 103 (.tmp 11) (.const (.int .i64 1)),0,"route.go:60",#[],none⟩
abbrev oOf11:Oper:=⟨some 78,.load 3 (.tmp 77),3,"route.go:60",#[⟨2,.data⟩],none⟩
abbrev oOf12:Oper:=⟨some 79,.fieldAddr 95 (.tmp 2) 2,0,"route.go:60",#[],none⟩
abbrev oOf13:Oper:=⟨some 80,.load 93 (.tmp 79),93,"route.go:60",#[⟨4,.data⟩],none⟩
abbrev oOf14:Oper:=⟨some 81,.indexAddr 103 (.tmp 11) (.const (.int .i64 1)),0,"route.go:60",#[],none⟩
abbrev oOf15:Oper:=⟨some 82,.load 3 (.tmp 81),3,"route.go:60",#[⟨6,.data⟩],none⟩
abbrev oOf16:Oper:=⟨some 83,.indexAddr 93 (.tmp 80) (.tmp 82),0,"route.go:60",#[⟨5,.data⟩,⟨7,.data⟩],none⟩
abbrev oOf17:Oper:=⟨some 84,.load 139 (.tmp 83),139,"route.go:60",#[⟨8,.data⟩],none⟩
abbrev oOf18:Oper:=⟨some 85,.move (.tmp 10),3,"route.go:60",#[],none⟩
abbrev oOf19:Oper:=⟨some 86,.indexAddr 103 (.tmp 11) (.const (.int .i64 0)),0,"route.go:60",#[],none⟩
abbrev oOf20:Oper:=⟨some 87,.load 3 (.tmp 86),3,"route.go:60",#[⟨11,.data⟩],none⟩
abbrev oOf21:Oper:=⟨some 88,.build 141 #[(0,.tmp 85),(1,.tmp 87)],141,"route.go:60",#[⟨10,.data⟩,⟨12,.data⟩],none⟩
abbrev oOf22:Oper:=⟨some 89,.buildSlice 139 1 #[(0,.tmp 88)],139,"route.go:60",#[⟨13,.data⟩],none⟩
abbrev oOf23:Oper:=⟨some 90,.call { callee:=.builtin Builtin.append,args:=#[.tmp 84,.tmp 89],argTypes:=#[139,139] },139,"route.go:60",#[⟨9,.data⟩,⟨14,.data⟩],none⟩
abbrev oOf24:Oper:=⟨some 91,.indexAddr 93 (.tmp 76) (.tmp 78),0,"route.go:60",#[⟨1,.data⟩,⟨3,.data⟩,⟨0,.phase⟩,⟨1,.phase⟩,⟨2,.phase⟩,⟨3,.phase⟩,⟨4,.phase⟩,⟨5,.phase⟩,⟨6,.phase⟩,⟨7,.phase⟩,⟨8,.phase⟩,⟨9,.phase⟩,⟨10,.phase⟩,⟨11,.phase⟩,⟨12,.phase⟩,⟨13,.phase⟩,⟨14,.phase⟩,⟨15,.phase⟩],none⟩
abbrev oOf25:Oper:=⟨none,.store 139 (.tmp 91) (.tmp 90),0,"route.go:60",#[⟨16,.data⟩,⟨15,.data⟩,⟨15,.chain⟩,⟨0,.phase⟩,⟨1,.phase⟩,⟨2,.phase⟩,⟨3,.phase⟩,⟨4,.phase⟩,⟨5,.phase⟩,⟨6,.phase⟩,⟨7,.phase⟩,⟨8,.phase⟩,⟨9,.phase⟩,⟨10,.phase⟩,⟨11,.phase⟩,⟨12,.phase⟩,⟨13,.phase⟩,⟨14,.phase⟩,⟨15,.phase⟩],none⟩
abbrev oOf26:Oper:=⟨some 58,.fieldAddr 95 (.tmp 2) 2,0,"route.go:59",#[],none⟩
abbrev oOf27:Oper:=⟨some 59,.load 93 (.tmp 58),93,"route.go:59",#[⟨0,.data⟩],none⟩
abbrev oOf28:Oper:=⟨some 60,.indexAddr 103 (.tmp 11) (.const (.int .i64 0)),0,"route.go:59",#[],none⟩
abbrev oOf29:Oper:=⟨some 61,.load 3 (.tmp 60),3,"route.go:59",#[⟨2,.data⟩],none⟩
abbrev oOf30:Oper:=⟨some 62,.fieldAddr 95 (.tmp 2) 2,0,"route.go:59",#[],none⟩
abbrev oOf31:Oper:=⟨some 63,.load 93 (.tmp 62),93,"route.go:59",#[⟨4,.data⟩],none⟩
abbrev oOf32:Oper:=⟨some 64,.indexAddr 103 (.tmp 11) (.const (.int .i64 0)),0,"route.go:59",#[],none⟩
abbrev oOf33:Oper:=⟨some 65,.load 3 (.tmp 64),3,"route.go:59",#[⟨6,.data⟩],none⟩
abbrev oOf34:Oper:=⟨some 66,.indexAddr 93 (.tmp 63) (.tmp 65),0,"route.go:59",#[⟨5,.data⟩,⟨7,.data⟩],none⟩
abbrev oOf35:Oper:=⟨some 67,.load 139 (.tmp 66),139,"route.go:59",#[⟨8,.data⟩],none⟩
abbrev oOf36:Oper:=⟨some 68,.move (.tmp 10),3,"route.go:59",#[],none⟩
abbrev oOf37:Oper:=⟨some 69,.indexAddr 103 (.tmp 11) (.const (.int .i64 1)),0,"route.go:59",#[],none⟩
abbrev oOf38:Oper:=⟨some 70,.load 3 (.tmp 69),3,"route.go:59",#[⟨11,.data⟩],none⟩
abbrev oOf39:Oper:=⟨some 71,.build 141 #[(0,.tmp 68),(1,.tmp 70)],141,"route.go:59",#[⟨10,.data⟩,⟨12,.data⟩],none⟩
abbrev oOf40:Oper:=⟨some 72,.buildSlice 139 1 #[(0,.tmp 71)],139,"route.go:59",#[⟨13,.data⟩],none⟩
abbrev oOf41:Oper:=⟨some 73,.call { callee:=.builtin Builtin.append,args:=#[.tmp 67,.tmp 72],argTypes:=#[139,139] },139,"route.go:59",#[⟨9,.data⟩,⟨14,.data⟩],none⟩
abbrev oOf42:Oper:=⟨some 74,.indexAddr 93 (.tmp 59) (.tmp 61),0,"route.go:59",#[⟨1,.data⟩,⟨3,.data⟩,⟨0,.phase⟩,⟨1,.phase⟩,⟨2,.phase⟩,⟨3,.phase⟩,⟨4,.phase⟩,⟨5,.phase⟩,⟨6,.phase⟩,⟨7,.phase⟩,⟨8,.phase⟩,⟨9,.phase⟩,⟨10,.phase⟩,⟨11,.phase⟩,⟨12,.phase⟩,⟨13,.phase⟩,⟨14,.phase⟩,⟨15,.phase⟩],none⟩
abbrev oOf43:Oper:=⟨none,.store 139 (.tmp 74) (.tmp 73),0,"route.go:59",#[⟨16,.data⟩,⟨15,.data⟩,⟨15,.chain⟩,⟨0,.phase⟩,⟨1,.phase⟩,⟨2,.phase⟩,⟨3,.phase⟩,⟨4,.phase⟩,⟨5,.phase⟩,⟨6,.phase⟩,⟨7,.phase⟩,⟨8,.phase⟩,⟨9,.phase⟩,⟨10,.phase⟩,⟨11,.phase⟩,⟨12,.phase⟩,⟨13,.phase⟩,⟨14,.phase⟩,⟨15,.phase⟩],none⟩
structure Of2 (w4:World) (b1 N:Nat) (v0 v2:Value) (m1 m3:Option Nat) (wx:World):Prop where
 blk:Blk wx b1 95 #[v0,.slice none 0 0,v2]
 chg:Chg w4 wx fun k=>k=b1
 lt:b1<w4.heap.size
 tr:∀ g,m1=some g->w4.heap.size<=g∧wx.ownsRow w4.heap.size 4 1 (.slice (some ⟨g,0,none⟩) N N) N (bools (List.replicate N false))
 att:∀ g,m3=some g->w4.heap.size<=g∧wx.ownsRow w4.heap.size 139 1 (.slice (some ⟨g,0,none⟩) N N) N (List.replicate N (.slice none 0 0))
theorem made_list (z:Value) (N:Nat):(madeCells #[z] (N*1)).toList=List.replicate N z:=by
 apply List.ext_getElem?
 intro i
 rw [Array.getElem?_toList,Nat.mul_one]
 by_cases h:i<N
 ·rw [List.getElem?_replicate,if_pos h,Array.getElem?_eq_getElem (by rw [size_madeCells];exact h)]
  simp [madeCells,Nat.mod_one]
 ·rw [List.getElem?_eq_none (by simp;omega),Array.getElem?_eq_none (by rw [size_madeCells];omega)]
section
variable {w4 wx : World} {b1 N : Nat} {v0 v2 : Value} {m1 m3 : Option Nat}
theorem Of2.keep (h:Of2 w4 b1 N v0 v2 m1 m3 wx) {wy:World} (hb:Below wx.heap.size wx wy):Of2 w4 b1 N v0 v2 m1 m3 wy :=
 ⟨h.blk.keep hb,h.chg.belowB hb,h.lt,fun g hg=>⟨(h.tr g hg).1,own_keep (h.tr g hg).2 hb⟩,fun g hg=>⟨(h.att g hg).1,own_keep (h.att g hg).2 hb⟩⟩
theorem end_infoP:(Tryz.prog.info? 141).map (fun i=>(i.zero,i.size,i.bytes))=some (some (.agg #[.int .i64 0,.int .i64 0]),2,16):=by kernel_rfl
theorem rows_infoP:(Tryz.prog.info? 139).map (fun i=>(i.zero,i.size,i.bytes))=some (some (.slice none 0 0),1,24):=by kernel_rfl
theorem Of2.make1 (h:Of2 w4 b1 N v0 v2 none m3 wx) (hN:N<=100000):∃ w' g,(Instr.makeSlice 35 (.int .i64 (N:Int)) (.int .i64 (N:Int))).run Tryz.prog wx=.ok (.slice (some ⟨g,0,none⟩) N N) w'∧Of2 w4 b1 N v0 v2 (some g) m3 w':=by
 obtain ⟨i,hi,hz⟩:=Option.map_eq_some_iff.1 bool_infoA
 obtain ⟨z1,z2,z3⟩:=(by simpa using hz:i.zero=some (.bool false)∧i.size=1∧i.bytes=1)
 have hs:=h.chg.size
 obtain ⟨w',hr,ho,hg⟩:=run_make_full (P:=Tryz.prog) wx w4.heap.size 35 4 i (.bool false) 1 Tryz.underlying35 hi z1 z2 .i64 .i64 N (by rw [z3];omega) (by unfold maxLen;omega) hs
 rw [show (Value.bool false).cells=#[.bool false] from rfl,made_list] at ho
 have hb:Below wx.heap.size wx w':=((Chg.of_grown hg).below br_ (Nat.le_refl _) (fun k hk=>by cases hk))
 have hk:=h.keep hb
 refine ⟨w',wx.heap.size,hr,hk.blk,hk.chg,hk.lt,fun g e=>?_,hk.att⟩
 obtain rfl:=Option.some.inj e
 exact ⟨hs,by rw [show bools (List.replicate N false)=List.replicate N (.bool false) by simp [bools]];exact ho⟩
theorem Of2.make3 (h:Of2 w4 b1 N v0 v2 m1 none wx) (hN:N<=100000):∃ w' g,(Instr.makeSlice 93 (.int .i64 (N:Int)) (.int .i64 (N:Int))).run Tryz.prog wx=.ok (.slice (some ⟨g,0,none⟩) N N) w'∧Of2 w4 b1 N v0 v2 m1 (some g) w':=by
 obtain ⟨i,hi,hz⟩:=Option.map_eq_some_iff.1 rows_infoP
 obtain ⟨z1,z2,z3⟩:=(by simpa using hz:i.zero=some (.slice none 0 0)∧i.size=1∧i.bytes=24)
 have hs:=h.chg.size
 obtain ⟨w',hr,ho,hg⟩:=run_make_full (P:=Tryz.prog) wx w4.heap.size 93 139 i (.slice none 0 0) 1 Tryz.underlying93 hi z1 z2 .i64 .i64 N (by rw [z3];omega) (by unfold maxLen;omega) hs
 rw [show (Value.slice none 0 0).cells=#[.slice none 0 0] from rfl,made_list] at ho
 have hk:=h.keep (((Chg.of_grown hg).below br_ (Nat.le_refl _) (fun k hk=>by cases hk)))
 refine ⟨w',wx.heap.size,hr,hk.blk,hk.chg,hk.lt,hk.tr,fun g e=>?_⟩
 obtain rfl:=Option.some.inj e
 exact ⟨hs,ho⟩
theorem Of2.put (h:Of2 w4 b1 N v0 v2 m1 m3 wx) {i:Nat} {u u0 u2:Value} (he:(#[v0,Value.slice none 0 0,v2].setIfInBounds i u)=#[u0,Value.slice none 0 0,u2]):Of2 w4 b1 N u0 u2 m1 m3 (wx.setCell ⟨b1,i,none⟩ u):=by
 have hlt:=h.lt
 have hC:=Chg.set wx b1 i u
 refine ⟨?_,h.chg.setSame u,h.lt,fun g hg=>⟨(h.tr g hg).1,hC.own (h.tr g hg).2 (fun g' e hk=>?_)⟩,fun g hg=>⟨(h.att g hg).1,hC.own (h.att g hg).2 (fun g' e hk=>?_)⟩⟩
 ·rw [<- he];exact h.blk.put i u
 ·have:=own_base (h.tr g hg).2 e;omega
 ·have:=own_base (h.att g hg).2 e;omega
theorem Of2.put0 {g:Nat} (h:Of2 w4 b1 N v0 v2 (some g) m3 wx):Of2 w4 b1 N (.slice (some ⟨g,0,none⟩) N N) v2 (some g) m3 (wx.setCell ⟨b1,0,none⟩ (.slice (some ⟨g,0,none⟩) N N)):=h.put rfl
theorem Of2.put2 {g:Nat} (h:Of2 w4 b1 N v0 v2 m1 (some g) wx):Of2 w4 b1 N v0 (.slice (some ⟨g,0,none⟩) N N) m1 (some g) (wx.setCell ⟨b1,2,none⟩ (.slice (some ⟨g,0,none⟩) N N)):=h.put rfl
theorem Of2.ne {g g':Nat} (h:Of2 w4 b1 N v0 v2 (some g) (some g') wx):g≠g':=(blk_of_own (h.tr g rfl).2).other (blk_of_own (h.att g' rfl).2) (by decide)
end
def evP (es:List (Int × Int)) (i:Nat):List (Nat × List Value):=(List.range i).flatMap fun (k:Nat)=>[((edge es (k:Int)).1.toNat,[Value.int .i64 (k:Int),Value.int .i64 (edge es (k:Int)).2]),((edge es (k:Int)).2.toNat,[Value.int .i64 (k:Int),Value.int .i64 (edge es (k:Int)).1])]
theorem evP_next {es:List (Int × Int)} {i a b:Nat} (h:edge es (i:Int)=((a:Int),(b:Int))):evP es (i+1)=(evP es i++[(a,[Value.int .i64 (i:Int),Value.int .i64 (b:Int)])])++[(b,[Value.int .i64 (i:Int),Value.int .i64 (a:Int)])]:=by
 unfold evP
 rw [List.range_succ,List.flatMap_append]
 simp [h]
theorem evP_len (es:List (Int × Int)) (i:Nat):(evP es i).length=2*i:=by
 induction i with
 | zero=>rfl
 | succ i ih =>
  unfold evP at ih ⊢
  rw [List.range_succ,List.flatMap_append,List.length_append,ih]
  simp
  omega
theorem evP_two (es:List (Int × Int)) (i:Nat):∀ e ∈ evP es i,e.2.length=2:=by
 intro e he
 unfold evP at he
 obtain ⟨k,-,hk⟩:=List.mem_flatMap.1 he
 rcases List.mem_cons.1 hk with rfl|hk
 ·rfl
 ·rw [List.mem_singleton] at hk;subst hk;rfl
def OfOut (W H T : Int) (w : World) (e : Ending) (w' : World) : Prop :=
  ∃ (AT AE : Option Addr) (cT cE : Nat) (vA : Value) (N : Nat), e = .returned (.agg #[.slice AT N cT, .slice AE (edgesL W H T).length cE, vA]) ∧ Below w.heap.size w w' ∧ GridIn w' N (edgesL W H T).length cT cE AT AE (trTo W H T N) (edgesL W H T) ∧ nodesI W H T = (N : Int) ∧ vA.cells = #[vA] ∧
    ∃ (ga cA : Nat) (f : Nat → Nat) (rs : List RX), vA = .slice (some ⟨ga, 0, none⟩) N cA ∧ RowsW w.heap.size w.heap.size 139 141 2 f ga N cA rs w' ∧ RowsAt rs (evP (edgesL W H T) (edgesL W H T).length)
def trS (W H T:Int) (N i:Nat):List Bool:=trTo W H T i++List.replicate (N-i) false
theorem trS_len {W H T:Int} {N i:Nat} (h:i<=N):(trS W H T N i).length=N:=by unfold trS;rw [List.length_append,trTo_len,List.length_replicate];omega
theorem trS_next {W H T:Int} {N i:Nat} (h:i<N) {v:Bool} (hv:trkB W H T i=v):(trS W H T N i).set i v=trS W H T N (i+1):=by
 unfold trS
 rw [trTo_next,List.set_append_right _ _ (by rw [trTo_len];exact Nat.le_refl _),trTo_len,Nat.sub_self,show N-i=(N-(i+1))+1 by omega,List.replicate_succ,List.set_cons_zero,List.append_assoc,hv]
 rfl
theorem trS_done (W H T:Int) (N:Nat):trS W H T N N=trTo W H T N:=by unfold trS;simp
theorem gridOf_any (W H T:Int) (w:World) (hok:okA W H T) :
  Calls Tryz.prog 53 #[.agg #[.int .i64 W,.int .i64 H,.int .i64 T]] w (OfOut W H T w):=by
 obtain ⟨RR,hRR⟩:∃ RR:Ending->World->Prop,OfOut W H T w=RR:=⟨_,rfl⟩
 rw [hRR]
 unfold OfOut at hRR
 have HRR:=hd_ hRR
 have HOKA:=hd_ hok
 have hno:nodesO W H T=nodesI W H T:=if_pos hok
 have hnb:=nodes_bd hok
 have HC:=hd_ (nodes_any W H T)
 rw [hno] at HC
 obtain ⟨N,hN⟩:∃ N:Nat,nodesI W H T=(N:Int):=⟨(nodesI W H T).toNat,by omega⟩
 have HNE:=hd_ hN
 rw [hN] at HC hnb
 have HNP:=hd_ (show 0<(N:Int) by rw [<- hN];exact nodes_pos hok)
 clear hRR hok hno hN
 have Q0:=hd_ (bt_ (bn_ w (.cells #[.int .i64 W,.int .i64 H,.int .i64 T] 23)) (bn_ _ (.cells #[.slice none 0 0,.slice none 0 0,.slice none 0 0] 95)))
 have X0:=hd_ ((Blk.made w 23 #[.int .i64 W,.int .i64 H,.int .i64 T]).alloc (.cells #[.slice none 0 0,.slice none 0 0,.slice none 0 0] 95))
 have X1:=hd_ (show Blk ((w.alloc (.cells #[.int .i64 W,.int .i64 H,.int .i64 T] 23)).alloc (.cells #[.slice none 0 0,.slice none 0 0,.slice none 0 0] 95)) (w.heap.size+1) 95 #[.slice none 0 0,.slice none 0 0,.slice none 0 0] from blk_made1 w _ _ _)
 go_enter Tryz.func53,Tryz.ntmps53
 go_upto_region 1 with (fail)
 generalize (w.alloc (.cells #[.int .i64 W,.int .i64 H,.int .i64 T] 23)).alloc (.cells #[.slice none 0 0,.slice none 0 0,.slice none 0 0] 95)=w1 at Q0 X0 X1 ⊢
 generalize hb1:w.heap.size+1=b1 at X1 ⊢
 have hl1:w.heap.size<b1:=by omega
 clear hb1
 have a0:=X0.out.cell 0
 have a1:=X0.out.cell 1
 have a2:=X0.out.cell 2
 go_wp2_with fail
 refine (HC.out _).mono ?_
 rintro e w4 ⟨rfl,hb⟩
 have Q4:=hd_ (bt_ Q0.out hb)
 have X4:=hd_ (X0.out.keep hb)
 have G4:=hd_ (X1.out.keep hb)
 clear a0 a1 a2 hb Q0 X0 X1
 have hl4:b1<w4.heap.size:=G4.out.lt
 have MM:=hd_ (show Of2 w4 b1 N (.slice none 0 0) (.slice none 0 0) none none w4.drew from (show Of2 w4 b1 N (.slice none 0 0) (.slice none 0 0) none none w4 from ⟨G4.out,Chg.refl _ _,hl4,fun g h=>(by cases h),fun g h=>(by cases h)⟩).keep bd_)
 go_upto_region 2 with (fail)
 go_cut [3] (fun v3 wx=>v3=.int .i64 (N:Int)∧∃ g1 g3:Nat,g1≠g3∧Of2 w4 b1 N (.slice (some ⟨g1,0,none⟩) N N) (.slice (some ⟨g3,0,none⟩) N N) (some g1) (some g3) wx)
 case first =>
  refine wp_region_held_drew (S:=(fun _=>True)) (by kernel_rfl) ?_ (fun hh=>?_)
  ·trivial
  refine tk_ 0 oOf0 (v:=?_) ?_ ?_
  rotate_left
  ·intro w hSw;(try dsimp only at hSw);go_simp;(try with_reducible rfl)
  try simp only [Act.put,la_,lz_,ls_]
  refine tk_ 2 oOf2 (v:=?_) ?_ ?_
  rotate_left
  ·intro w hSw;(try dsimp only at hSw);go_simp;(try with_reducible rfl)
  try simp only [Act.put,la_,lz_,ls_]
  refine rd_ [1,3] ?_
  refine AllReadyH.cons (o:=oOf1) rfl (fun K hK=>?_) (AllReadyH.cons (o:=oOf3) rfl (fun K hK=>?_) AllReadyH.nil)
  ·skip
   go_simp
   obtain ⟨wm,gm,hrm,hom⟩:=MM.out.make1 (by omega)
   rw [hrm]
   simp only [Result.andThen]
   have MM:=hd_ hom
   clear hrm hom
   refine hK.out _ _ ?_ (fun hh=>?_)
   ·trivial
   clear hK K
   try simp only [Act.put,la_,lz_,ls_]
   refine tk_ 4 oOf4 (v:=?_) ?_ ?_
   rotate_left
   ·intro w hSw;(try dsimp only at hSw);go_simp;(try with_reducible rfl)
   try simp only [Act.put,la_,lz_,ls_]
   refine rd_ [3,5] ?_
   refine AllReadyH.cons (o:=oOf3) rfl (fun K hK=>?_) (AllReadyH.cons (o:=oOf5) rfl (fun K hK=>?_) AllReadyH.nil)
   ·skip
    go_simp
    obtain ⟨wm,gm,hrm,hom⟩:=MM.out.make3 (by omega)
    rw [hrm]
    simp only [Result.andThen]
    have MM:=hd_ hom
    clear hrm hom
    refine hK.out _ _ ?_ (fun hh=>?_)
    ·trivial
    clear hK K
    try simp only [Act.put,la_,lz_,ls_]
    refine rd_ [5] ?_
    refine AllReadyH.cons (o:=oOf5) rfl (fun K hK=>?_) AllReadyH.nil
    have x0:=MM.out.blk.cell 0
    have f0:=MM.out.blk.free 0
    go_simp
    have MM:=hd_ MM.out.put0
    clear x0 f0
    refine hK.out _ _ ?_ (fun hh=>?_)
    ·trivial
    clear hK K
    try simp only [Act.put,la_,lz_,ls_]
    refine tk_ 6 oOf6 (v:=?_) ?_ ?_
    rotate_left
    ·intro w hSw;(try dsimp only at hSw);go_simp;(try with_reducible rfl)
    try simp only [Act.put,la_,lz_,ls_]
    refine rd_ [7] ?_
    refine AllReadyH.cons (o:=oOf7) rfl (fun K hK=>?_) AllReadyH.nil
    have x2:=MM.out.blk.cell 2
    have f2:=MM.out.blk.free 2
    go_simp
    have MM:=hd_ MM.out.put2
    clear x2 f2
    refine hK.out _ _ ?_ (fun hh=>?_)
    ·trivial
    clear hK K
    try simp only [Act.put,la_,lz_,ls_]
    refine wpAnyH_done (by kernel_rfl) ?_ _
    go_wp2_with fail
    go_meet
    exact ⟨rfl,_,_,MM.out.ne,MM.out⟩
   ·skip
    have x0:=MM.out.blk.cell 0
    have f0:=MM.out.blk.free 0
    go_simp
    have MM:=hd_ MM.out.put0
    clear x0 f0
    refine hK.out _ _ ?_ (fun hh=>?_)
    ·trivial
    clear hK K
    try simp only [Act.put,la_,lz_,ls_]
    refine rd_ [3] ?_
    refine AllReadyH.cons (o:=oOf3) rfl (fun K hK=>?_) AllReadyH.nil
    go_simp
    obtain ⟨wm,gm,hrm,hom⟩:=MM.out.make3 (by omega)
    rw [hrm]
    simp only [Result.andThen]
    have MM:=hd_ hom
    clear hrm hom
    refine hK.out _ _ ?_ (fun hh=>?_)
    ·trivial
    clear hK K
    try simp only [Act.put,la_,lz_,ls_]
    refine tk_ 6 oOf6 (v:=?_) ?_ ?_
    rotate_left
    ·intro w hSw;(try dsimp only at hSw);go_simp;(try with_reducible rfl)
    try simp only [Act.put,la_,lz_,ls_]
    refine rd_ [7] ?_
    refine AllReadyH.cons (o:=oOf7) rfl (fun K hK=>?_) AllReadyH.nil
    have x2:=MM.out.blk.cell 2
    have f2:=MM.out.blk.free 2
    go_simp
    have MM:=hd_ MM.out.put2
    clear x2 f2
    refine hK.out _ _ ?_ (fun hh=>?_)
    ·trivial
    clear hK K
    try simp only [Act.put,la_,lz_,ls_]
    refine wpAnyH_done (by kernel_rfl) ?_ _
    go_wp2_with fail
    go_meet
    exact ⟨rfl,_,_,MM.out.ne,MM.out⟩
  ·skip
   go_simp
   obtain ⟨wm,gm,hrm,hom⟩:=MM.out.make3 (by omega)
   rw [hrm]
   simp only [Result.andThen]
   have MM:=hd_ hom
   clear hrm hom
   refine hK.out _ _ ?_ (fun hh=>?_)
   ·trivial
   clear hK K
   try simp only [Act.put,la_,lz_,ls_]
   refine rd_ [1] ?_
   refine AllReadyH.cons (o:=oOf1) rfl (fun K hK=>?_) AllReadyH.nil
   go_simp
   obtain ⟨wm,gm,hrm,hom⟩:=MM.out.make1 (by omega)
   rw [hrm]
   simp only [Result.andThen]
   have MM:=hd_ hom
   clear hrm hom
   refine hK.out _ _ ?_ (fun hh=>?_)
   ·trivial
   clear hK K
   try simp only [Act.put,la_,lz_,ls_]
   refine tk_ 4 oOf4 (v:=?_) ?_ ?_
   rotate_left
   ·intro w hSw;(try dsimp only at hSw);go_simp;(try with_reducible rfl)
   try simp only [Act.put,la_,lz_,ls_]
   refine rd_ [5] ?_
   refine AllReadyH.cons (o:=oOf5) rfl (fun K hK=>?_) AllReadyH.nil
   have x0:=MM.out.blk.cell 0
   have f0:=MM.out.blk.free 0
   go_simp
   have MM:=hd_ MM.out.put0
   clear x0 f0
   refine hK.out _ _ ?_ (fun hh=>?_)
   ·trivial
   clear hK K
   try simp only [Act.put,la_,lz_,ls_]
   refine tk_ 6 oOf6 (v:=?_) ?_ ?_
   rotate_left
   ·intro w hSw;(try dsimp only at hSw);go_simp;(try with_reducible rfl)
   try simp only [Act.put,la_,lz_,ls_]
   refine rd_ [7] ?_
   refine AllReadyH.cons (o:=oOf7) rfl (fun K hK=>?_) AllReadyH.nil
   have x2:=MM.out.blk.cell 2
   have f2:=MM.out.blk.free 2
   go_simp
   have MM:=hd_ MM.out.put2
   clear x2 f2
   refine hK.out _ _ ?_ (fun hh=>?_)
   ·trivial
   clear hK K
   try simp only [Act.put,la_,lz_,ls_]
   refine wpAnyH_done (by kernel_rfl) ?_ _
   go_wp2_with fail
   go_meet
   exact ⟨rfl,_,_,MM.out.ne,MM.out⟩
 case rest =>
  obtain ⟨rfl,g1,g3,hne13,hM⟩:=hcut
  clear MM
  have MM:=hd_ hM
  clear hM
  have lg1:=(MM.out.tr g1 rfl).1
  have lg3:=(MM.out.att g3 rfl).1
  have hs4:=MM.out.chg.size
  have T0:=hd_ (show BitsB wc g1 (trS W H T N 0) from by have h:=blk_of_own (MM.out.tr g1 rfl).2;exact h)
  have HX:=hd_ (show ∀ W':World,Chg wc W' (fun k=>k=g1)->Blk W' w.heap.size 23 #[.int .i64 W,.int .i64 H,.int .i64 T] from fun W' hW=>hW.blk (MM.out.chg.blk X4.out (by omega)) (by omega))
  have HB:=hd_ (show ∀ W':World,Chg wc W' (fun k=>k=g1)->Blk W' b1 95 #[.slice (some ⟨g1,0,none⟩) N N,.slice none 0 0,.slice (some ⟨g3,0,none⟩) N N] from fun W' hW=>hW.blk MM.out.blk (by omega))
  have HA:=hd_ (show ∀ W':World,Chg wc W' (fun k=>k=g1)->W'.ownsRow w4.heap.size 139 1 (.slice (some ⟨g3,0,none⟩) N N) N (List.replicate N (.slice none 0 0)) from fun W' hW=>hW.own (MM.out.att g3 rfl).2 (fun g e hk=>by rw [own_blk] at e;have e':g3=g:=Option.some.inj e;omega))
  have HQ:=hd_ (show ∀ W':World,Chg wc W' (fun k=>k=g1)->Below w.heap.size w W' from fun W' hW=>by
   have h1:=MM.out.chg.below Q4.out Q4.out.size (fun k hk=>by omega)
   exact hW.below h1 h1.size (fun k hk=>by omega))
  clear Q4 X4 G4 MM
  go_wp2_with fail
  go_loopw [21] (fun v21 wx=>∃ (i:Nat),i<=N∧v21=.int .i64 (i:Int)∧BitsB wx g1 (trS W H T N i)∧Chg wc wx fun k=>k=g1) (fun v21 _=>N-(intOf v21).toNat)
  case atStart=>exact ⟨0,by omega,rfl,T0.out,Chg.refl _ _⟩
  case round =>
   clear T0
   obtain ⟨i,hi,rfl,hT,hc⟩:=hrel
   have TT:=hd_ hT
   have CC:=hd_ hc
   clear hT hc
   by_cases hin:i<N
   case neg =>
    obtain rfl:N=i:=by omega
    have hlt:¬ (N:Int)<(N:Int):=by omega
    go_upto_region 9 with (fail)
    have XX:=hd_ (HX.out _ CC.out)
    have a0:=XX.out.cell 0
    have a1:=XX.out.cell 1
    have a2:=XX.out.cell 2
    have HE:=hd_ (edges_yes W H T wr HOKA.out)
    have HIN:=hd_ (show ∀ e ∈ edgesL W H T,(0<=e.1∧e.1<(N:Int))∧0<=e.2∧e.2<(N:Int) from fun e he=>by
     have h:=edges_nodes HOKA.out he
     rw [<- HNE.out]
     exact ⟨h.1.2,h.2.2⟩)
    have hlen:(edgesL W H T).length<=6000000:=by have:=rawL_len HOKA.out;unfold edgesL;rw [sortP_length];exact this
    have TT:=hd_ (show BitsB wr g1 (trTo W H T N) from by have h:=TT.out;rw [trS_done] at h;exact h)
    go_wp2_with fail
    refine HE.out.mono ?_
    rintro e w5 ⟨v,rfl,hb5,how5⟩
    clear HE
    generalize edgesL W H T=es at HIN hlen how5 HRR
    obtain ⟨ne,hne⟩:∃ ne,es.length=ne:=⟨_,rfl⟩
    have HES:=hd_ hne
    rw [hne] at how5 hlen
    obtain ⟨AE,cE,rfl⟩:=own_slice how5
    have C5:=hd_ (CC.out.belowB hb5)
    have T5:=hd_ (Blk.keep TT.out hb5)
    have hl5:w4.heap.size<=wr.heap.size:=by have:=CC.out.size;omega
    have OE:=hd_ (own_down how5 hl5)
    clear a0 a1 a2 XX CC TT hb5 how5 hne
    have B5:=hd_ (HB.out _ C5.out)
    have x1:=B5.out.cell 1
    have f1:=B5.out.free 1
    go_upto_region 10 with (fail)
    clear x1 f1
    have hC5:=Chg.set w5 b1 1 (.slice AE ne cE)
    have B6:=hd_ (show Blk (w5.setCell ⟨b1,1,none⟩ (.slice AE ne cE)) b1 95 #[.slice (some ⟨g1,0,none⟩) N N,.slice AE ne cE,.slice (some ⟨g3,0,none⟩) N N] from by have:=B5.out.put 1 (.slice AE ne cE);simpa using this)
    have TR6:=hd_ (hC5.blk T5.out (show ¬ g1=b1 by omega))
    have AT6:=hd_ (hC5.own (HA.out _ C5.out) (fun g e hk=>by rw [own_blk] at e;have e':g3=g:=Option.some.inj e;omega))
    have OE6:=hd_ (hC5.own OE.out (fun g e hk=>by have:=own_base OE.out e;omega))
    have Q6:=hd_ (show Below w.heap.size w (w5.setCell ⟨b1,1,none⟩ (.slice AE ne cE)) from hC5.below (HQ.out _ C5.out) (HQ.out _ C5.out).size (fun k hk=>by omega))
    have hs6:w4.heap.size<=(w5.setCell ⟨b1,1,none⟩ (.slice AE ne cE)).heap.size:=by have h1:=C5.out.size;have h2:=hC5.size;omega
    clear hC5 OE T5 B5 C5 HX HB HA HQ
    generalize w5.setCell ⟨b1,1,none⟩ (.slice AE ne cE)=w6 at B6 TR6 AT6 OE6 Q6 hs6 ⊢
    have R6:=hd_ (show RowsW w4.heap.size w6.heap.size 139 141 2 (fun _=>0) g3 N N (List.replicate N ⟨none,0,0,[]⟩) w6 from RowsW.start AT6.out)
    have HB2:=hd_ (show ∀ W':World,Chg w6 W' (fun k=>k=g3)->Blk W' b1 95 #[.slice (some ⟨g1,0,none⟩) N N,.slice AE ne cE,.slice (some ⟨g3,0,none⟩) N N] from fun W' hW=>hW.blk B6.out (by omega))
    have HTR:=hd_ (show ∀ W':World,Chg w6 W' (fun k=>k=g3)->Rd W' 1 (some ⟨g1,0,none⟩) N N (bools (trTo W H T N)) from fun W' hW=>rd_of_blk (hW.blk TR6.out hne13) 1 N (by rw [show (bools (trTo W H T N)).length=(trTo W H T N).length by simp [bools],trTo_len];omega))
    have HED:=hd_ (show ∀ W':World,Chg w6 W' (fun k=>k=g3)->Rd W' 2 AE ne cE (pc es) from fun W' hW=>(Rd.of_own OE6.out).chg hW (fun g hg hk=>by
     obtain ⟨cs,hb⟩:=R6.out.blk
     exact own_other OE6.out hb (by decide) (by rw [own_blk,hg,hk])))
    have HQ6:=hd_ (show ∀ W':World,Chg w6 W' (fun k=>k=g3)->Below w.heap.size w W' from fun W' hW=>hW.below Q6.out Q6.out.size (fun k hk=>by omega))
    have HLE:=hd_ (show ∀ g,blkOf AE=some g->w4.heap.size<=g from fun g e=>own_base OE6.out (by rw [own_blk];exact e))
    have hg36:=R6.out.lo.2
    clear TR6 AT6 OE6 B6 Q6
    have x1:=(HB2.out _ (Chg.refl _ _)).cell 1
    go_wp2_with fail
    go_loopw [53] (fun v53 wx=>∃ (i:Nat) (f:Nat->Nat) (rs:List RX),i<=ne∧v53=.int .i64 (i:Int)∧RowsW w4.heap.size w6.heap.size 139 141 2 f g3 N N rs wx∧Chg w6 wx (fun k=>k=g3)∧Hid (RowsAt rs (evP es i))) (fun v53 _=>ne-(intOf v53).toNat)
    case atStart=>exact ⟨0,_,_,by omega,rfl,R6.out,Chg.refl _ _,hd_ (RowsAt.start N)⟩
    case round =>
     clear R6 x1
     obtain ⟨i,f,rs,hi,rfl,hR,hc,HRA⟩:=hrel
     have RR1:=hd_ hR
     have CC:=hd_ hc
     clear hR hc
     by_cases hin:i<ne
     case neg =>
      obtain rfl:ne=i:=by omega
      have hlt:¬ (ne:Int)<(ne:Int):=by omega
      have hY:=HB2.out _ CC.out
      have x0:=hY.cell 0
      have x1:=hY.cell 1
      have x2:=hY.cell 2
      have z0:=hY.free 0
      have z1:=hY.free 1
      have z2:=hY.free 2
      have hci:(Tryz.prog.info? 95).map (·.size)=some 3:=by kernel_rfl
      go_wp2_with fail
      have hb1g:b1≠g3:=by omega
      have hS:=((Chg.set wr b1 0 (.slice (some ⟨g1,0,none⟩) N N)).setSame (i:=1) (.slice AE ne cE)).setSame (i:=2) (.slice (some ⟨g3,0,none⟩) N N)
      have R9:=((hY.put 0 (.slice (some ⟨g1,0,none⟩) N N)).put 1 (.slice AE ne cE)).put 2 (.slice (some ⟨g3,0,none⟩) N N)
      refine bodyPost_ret (v:=.agg #[.slice (some ⟨g1,0,none⟩) N N,.slice AE ne cE,.slice (some ⟨g3,0,none⟩) N N]) ?_ rfl ?_
      ·exact results_cell_row rfl _ _ b1 95 _ (0,0) _ rfl R9 Tryz.underlying95 rfl hci
      ·rw [<- HRR.out]
       have hbe:=hS.below (HQ6.out _ CC.out) (HQ6.out _ CC.out).size (fun k hk=>by omega)
       have h1:∀ {sz n c:Nat} {A:Option Addr} {xs:List Value},Rd wr sz A n c xs->(∀ g,blkOf A=some g->w4.heap.size<=g)->Rd ((((wr.setCell ⟨b1,0,none⟩ (.slice (some ⟨g1,0,none⟩) N N))).setCell ⟨b1,1,none⟩ (.slice AE ne cE)).setCell ⟨b1,2,none⟩ (.slice (some ⟨g3,0,none⟩) N N)) sz A n c xs:=fun hr hg=>hr.chg hS (fun g e hk=>by have:=hg g e;omega)
       refine ⟨some ⟨g1,0,none⟩,AE,N,cE,.slice (some ⟨g3,0,none⟩) N N,N,by rw [HES.out],hbe,?_,HNE.out,rfl,g3,N,f,rs,rfl,(RR1.out.chg hS (fun g h e=>by omega) (fun g h e=>by omega)).down (by omega) (by omega),by rw [HES.out];exact HRA.out⟩
       exact ⟨h1 (HTR.out _ CC.out) (fun g e=>by have e':g1=g:=Option.some.inj e;omega),by rw [HES.out];exact h1 (HED.out _ CC.out) (fun g e=>HLE.out g e),HIN.out,by omega,by rw [HES.out];omega⟩
     have hin':(i:Int)<(ne:Int):=by omega
     obtain ⟨a,b,m,hed,ha,hb,hsm,hme⟩:=edge_in HIN.out (s:=(i:Int)) (by omega) (by rw [HES.out];exact hin')
     obtain rfl:i=m:=by omega
     have hp2:=pc_two es hme
     rw [hed] at hp2
     have HEV:=hd_ (evP_next (i:=i) hed)
     obtain ⟨pe,hpe,-,s0,s1⟩:=(HED.out _ CC.out).two hp2.1 hp2.2
     clear hp2 hed hsm hme
     obtain ⟨L,hL⟩:∃ L,evP es i=L:=⟨_,rfl⟩
     rw [hL] at HRA HEV
     have HLL:=hd_ (show L.length<=12000000 from by rw [<- hL];have:=evP_len es i;omega)
     have HL1:=hd_ (show ∀ e ∈ L,e.2.length=2 from by rw [<- hL];exact evP_two es i)
     clear hL
     subst hpe
     go_upto_region 13 with (fail)
     clear s0 s1
     have BW:=bn_ wr (.cells #[.int .i64 (a:Int),.int .i64 (b:Int)] 103)
     have BE:=hd_ (Blk.made wr 103 #[.int .i64 (a:Int),.int .i64 (b:Int)])
     have R1:=hd_ (RR1.out.keep BW)
     have C1:=hd_ (CC.out.belowB BW)
     have HBG:=hd_ (show wr.heap.size≠g3 by have:=CC.out.size;omega)
     clear RR1 CC BW
     generalize wr.alloc (.cells #[.int .i64 (a:Int),.int .i64 (b:Int)] 103)=w8 at BE R1 C1 ⊢
     generalize wr.heap.size=be at BE HBG ⊢
     have HRA:=hd_ (show RowsAt rs L from HRA.out)
     have hxN:a<N:=ha
     have hxN':(a:Int)<(N:Int):=by omega
     obtain ⟨xx,hxx⟩:∃ xx,rs[a]? = some xx:=⟨_,List.getElem?_eq_getElem (by rw [R1.out.len];exact hxN)⟩
     obtain ⟨xA,xc,xn,xxs⟩:=xx
     have HXX:=hd_ hxx
     have hxn:xn<=13000000:=by
      have h1:=(R1.out.rows _ _ hxx).1.1
      have h2:=HRA.out _ _ hxx
      have h3:=evAt_len (ev:=L) (sz:=2) (fun e he=>by exact HL1.out e he) a
      (try simp only at h1 h2)
      rw [h2] at h1
      have h4:=HLL.out
      (try simp at h3)
      omega
     have g2:=R1.out.cell hxx
     (try simp only [RX.v] at g2)
     have x2:=(HB2.out _ C1.out).cell 2
     have e0:=BE.out.cell 0
     have e1:=BE.out.cell 1
     have HSS:=hd_ (show ∀ W':World,Below w8.heap.size w8 W'->((W'.cell? ⟨b1,2,none⟩=some (.slice (some ⟨g3,0,none⟩) N N)∧W'.cell? ⟨be,0,none⟩=some (.int .i64 (a:Int))∧W'.cell? ⟨be,1,none⟩=some (.int .i64 (b:Int)))∧W'.cell? ⟨g3,a,none⟩=some (.slice xA xn xc)) from fun W' hW=>⟨⟨(hW.cell (World.block_lt_of_cell? w8 _ x2)).trans x2,(hW.cell (World.block_lt_of_cell? w8 _ e0)).trans e0,(hW.cell (World.block_lt_of_cell? w8 _ e1)).trans e1⟩,(hW.cell (World.block_lt_of_cell? w8 _ g2)).trans g2⟩)
     clear hxx
     clear x2 e0 e1
     have g2d:=(HSS.out _ (bn_ w8 (.cells #[.int .i64 (i:Int),.int .i64 (b:Int)] 141))).2
     have g2b:=(HSS.out _ (bt_ bd_ (bn_ w8.drew (.cells #[.int .i64 (i:Int),.int .i64 (b:Int)] 141)))).2
     have hbe':=BE.out.lt
     refine wp_region_held_drew (S:=(fun w'=>w'.cell? ⟨b1,2,none⟩=some (.slice (some ⟨g3,0,none⟩) N N)∧w'.cell? ⟨be,0,none⟩=some (.int .i64 (a:Int))∧w'.cell? ⟨be,1,none⟩=some (.int .i64 (b:Int)))) (by kernel_rfl) ?_ (fun hh=>?_)
     ·(first|exact (HSS.out _ br_).1|exact (HSS.out _ bd_).1|exact (HSS.out _ (bt_ bd_ (bn_ _ _))).1|exact k1.out|exact k3.out)
     show wpAnyH _ _ _ _ _ _ #[false,false,false,false,false,false,false,false,false,false,false,false,false,false,false,false,false,false] _ _
     refine' stage1 (M:=fun (wx:World)=>(fun wx=>wx=w8.drew.alloc (.cells #[.int .i64 (i:Int),.int .i64 (b:Int)] 141)) wx) (fun h9_14=>?main) ?p9_14
     case main =>
      refine tk_ 0 oOf26 (v:=?_) ?_ ?_
      rotate_left
      ·intro w hSw;(try dsimp only at hSw);go_simp;(try with_reducible rfl)
      try simp only [Act.put,la_,lz_,ls_]
      refine tk_ 1 oOf27 (v:=?_) ?_ ?_
      rotate_left
      ·intro w hSw;(try dsimp only at hSw);go_simp;(try with_reducible rfl)
      try simp only [Act.put,la_,lz_,ls_]
      refine tk_ 2 oOf28 (v:=?_) ?_ ?_
      rotate_left
      ·intro w hSw;(try dsimp only at hSw);go_simp;(try with_reducible rfl)
      try simp only [Act.put,la_,lz_,ls_]
      refine tk_ 3 oOf29 (v:=?_) ?_ ?_
      rotate_left
      ·intro w hSw;(try dsimp only at hSw);go_simp;(try with_reducible rfl)
      try simp only [Act.put,la_,lz_,ls_]
      refine tk_ 4 oOf30 (v:=?_) ?_ ?_
      rotate_left
      ·intro w hSw;(try dsimp only at hSw);go_simp;(try with_reducible rfl)
      try simp only [Act.put,la_,lz_,ls_]
      refine tk_ 5 oOf31 (v:=?_) ?_ ?_
      rotate_left
      ·intro w hSw;(try dsimp only at hSw);go_simp;(try with_reducible rfl)
      try simp only [Act.put,la_,lz_,ls_]
      refine tk_ 6 oOf32 (v:=?_) ?_ ?_
      rotate_left
      ·intro w hSw;(try dsimp only at hSw);go_simp;(try with_reducible rfl)
      try simp only [Act.put,la_,lz_,ls_]
      refine tk_ 7 oOf33 (v:=?_) ?_ ?_
      rotate_left
      ·intro w hSw;(try dsimp only at hSw);go_simp;(try with_reducible rfl)
      try simp only [Act.put,la_,lz_,ls_]
      refine tk_ 8 oOf34 (v:=?_) ?_ ?_
      rotate_left
      ·intro w hSw;(try dsimp only at hSw);go_simp;(try with_reducible rfl)
      try simp only [Act.put,la_,lz_,ls_]
      refine tk_ 10 oOf36 (v:=?_) ?_ ?_
      rotate_left
      ·intro w hSw;(try dsimp only at hSw);go_simp;(try with_reducible rfl)
      try simp only [Act.put,la_,lz_,ls_]
      refine tk_ 11 oOf37 (v:=?_) ?_ ?_
      rotate_left
      ·intro w hSw;(try dsimp only at hSw);go_simp;(try with_reducible rfl)
      try simp only [Act.put,la_,lz_,ls_]
      refine tk_ 12 oOf38 (v:=?_) ?_ ?_
      rotate_left
      ·intro w hSw;(try dsimp only at hSw);go_simp;(try with_reducible rfl)
      try simp only [Act.put,la_,lz_,ls_]
      refine tk_ 13 oOf39 (v:=?_) ?_ ?_
      rotate_left
      ·intro w hSw;(try dsimp only at hSw);go_simp;(try with_reducible rfl)
      try simp only [Act.put,la_,lz_,ls_]
      refine rd_ [9,14] ?_
      refine AllReadyH.cons (o:=oOf35) rfl (fun K hK=>?_) ?_
      ·skip
       go_simp
       refine hK.out _ _ ?_ (fun hh=>?_)
       ·(first|exact (HSS.out _ br_).1|exact (HSS.out _ bd_).1|exact (HSS.out _ (bt_ bd_ (bn_ _ _))).1|exact k1.out|exact k3.out)
       clear hK K
       try simp only [Act.put,la_,lz_,ls_]
       refine rd_ [14] ?_
       refine AllReadyH.cons (o:=oOf40) rfl (fun K hK=>?_) ?_
       ·clear hh
        go_simp
        refine hK.out _ _ ?_ (fun hh=>?_)
        ·(first|exact (HSS.out _ br_).1|exact (HSS.out _ bd_).1|exact (HSS.out _ (bt_ bd_ (bn_ _ _))).1|exact k1.out|exact k3.out)
        clear hK K
        try simp only [Act.put,la_,lz_,ls_]
        exact h9_14 _ rfl
       exact AllReadyH.nil
      refine AllReadyH.cons (o:=oOf40) rfl (fun K hK=>?_) ?_
      ·skip
       go_simp
       refine hK.out _ _ ?_ (fun hh=>?_)
       ·(first|exact (HSS.out _ br_).1|exact (HSS.out _ bd_).1|exact (HSS.out _ (bt_ bd_ (bn_ _ _))).1|exact k1.out|exact k3.out)
       clear hK K
       try simp only [Act.put,la_,lz_,ls_]
       refine rd_ [9] ?_
       refine AllReadyH.cons (o:=oOf35) rfl (fun K hK=>?_) ?_
       ·clear hh
        go_simp
        refine hK.out _ _ ?_ (fun hh=>?_)
        ·(first|exact (HSS.out _ br_).1|exact (HSS.out _ bd_).1|exact (HSS.out _ (bt_ bd_ (bn_ _ _))).1|exact k1.out|exact k3.out)
        clear hK K
        try simp only [Act.put,la_,lz_,ls_]
        exact h9_14 _ rfl
       exact AllReadyH.nil
      exact AllReadyH.nil
     case p9_14 =>
      intro wx hMK
      subst hMK
      have hh:=(HSS.out _ (bt_ bd_ (bn_ w8.drew (.cells #[.int .i64 (i:Int),.int .i64 (b:Int)] 141)))).1
      refine rd_ [15] ?_
      refine AllReadyH.cons (o:=oOf41) rfl (fun K hK=>?_) ?_
      ·clear hh
       have O8:=hd_ (Rd.of_own (World.ownsRow_lit (base:=w8.drew.heap.size) (e:=141) (size:=2) w8.drew #[.int .i64 (i:Int),.int .i64 (b:Int)] 1 (by simp) (by unfold maxLen;omega) rfl))
       obtain ⟨A9,k9,u0,hrun9,hown9,hgr9,hat9⟩:=app_runs 139 141 139 Tryz.underlying139 _ 2 16 end_infoP rfl (by decide) (by decide) w6.heap.size xA xn xc xxs ((R1.out.rows a _ HXX.out).1.drew.alloc _) ⟨w8.drew.heap.size,0,none⟩ 1 1 [Value.int .i64 (i:Int),Value.int .i64 (b:Int)] O8.out (by simp [Value.oneCell']) (by omega) (by have:=C1.out.size;simp;omega)
       refine step_app_run (by rfl) (.tmp 67) (.tmp 72) 139 139 (by rfl) (.slice xA xn xc) (.slice (some ⟨w8.heap.size,0,none⟩) 1 1) (by rfl) (by rfl) hrun9 ?_
       have k2:=hd_ (R1.out.drew.still (w3:=u0) (by decide) HXX.out hgr9).1
       have f2:=(R1.out.drew.still (w3:=u0) (by decide) HXX.out hgr9).2
       have BW:=bt_ bd_ (bn_ w8.drew (.cells #[.int .i64 (i:Int),.int .i64 (b:Int)] 141))
       have BE9:=(BE.out.keep BW).grown hgr9 (fun e=>own_other ((R1.out.rows a _ HXX.out).1) BE.out (by decide) (by unfold RX.v;rw [own_blk];exact e.symm))
       have C9:=hd_ ((C1.out.belowB BW).grownHi hgr9 (fun j hj=>own_base (R1.out.rows a _ HXX.out).1 (by unfold RX.v;rw [own_blk];exact hj)))
       have k1:=hd_ (And.intro ((HB2.out _ C9.out).cell 2) (And.intro (BE9.cell 0) (BE9.cell 1)))
       have BE9:=hd_ (BE9.apart (p:=⟨g3,a,none⟩) HBG.out (.slice A9 (xn+1) k9))
       have k3:=hd_ (And.intro ((HB2.out _ (C9.out.setSame (i:=a) (.slice A9 (xn+1) k9))).cell 2) (And.intro (BE9.out.cell 0) (BE9.out.cell 1)))
       have k2':=k2.out
       have T9:=hd_ (R1.out.drew.turn (m:=1) (by decide) HXX.out hown9 hgr9 hat9)
       have U9:=hd_ (HRA.out.turn HXX.out A9 k9 (xn+1) [Value.int .i64 (i:Int),Value.int .i64 (b:Int)])
       have C9:=hd_ (C9.out.setSame (i:=a) (.slice A9 (xn+1) k9))
       clear BW hown9 hgr9 hat9 hrun9
       refine hK.out _ _ ?_ (fun hh=>?_)
       ·(first|exact (HSS.out _ br_).1|exact (HSS.out _ bd_).1|exact (HSS.out _ (bt_ bd_ (bn_ _ _))).1|exact k1.out|exact k3.out)
       clear hK K
       try simp only [Act.put,la_,lz_,ls_]
       refine tk_ 16 oOf42 (v:=?_) ?_ ?_
       rotate_left
       ·intro w hSw;(try dsimp only at hSw);go_simp;(try with_reducible rfl)
       try simp only [Act.put,la_,lz_,ls_]
       refine rd_ [17] ?_
       refine AllReadyH.cons (o:=oOf43) rfl (fun K hK=>?_) ?_
       ·clear hh
        go_simp
        refine hK.out _ _ ?_ (fun hh=>?_)
        ·(first|exact (HSS.out _ br_).1|exact (HSS.out _ bd_).1|exact (HSS.out _ (bt_ bd_ (bn_ _ _))).1|exact k1.out|exact k3.out)
        clear hK K
        try simp only [Act.put,la_,lz_,ls_]
        refine wpAnyH_done (by kernel_rfl) ?_ _
        clear k1 k2 f2 k3 k2' g2 g2b g2d hxN hxN' hxn HXX HSS BE R1 C1 HRA hbe'
        have HRA:=U9
        have R1:=T9
        have C1:=C9
        have BE:=BE9
        clear U9 T9 C9 BE9
        generalize hw10:(u0.setCell ⟨g3,a,none⟩ (.slice A9 (xn+1) k9))=w10 at R1 C1 BE ⊢
        clear hw10
        generalize (named f w8.drew.heap.size a)=f at R1
        generalize (rs.set a ⟨A9,k9,xn+1,xxs++[Value.int .i64 (i:Int),Value.int .i64 (b:Int)]⟩)=rs at R1 HRA
        have HRA:=hd_ (show RowsAt rs (L++[(a,[Value.int .i64 (i:Int),Value.int .i64 (b:Int)])]) from HRA.out)
        have hxN:b<N:=hb
        have hxN':(b:Int)<(N:Int):=by omega
        obtain ⟨xx,hxx⟩:∃ xx,rs[b]? = some xx:=⟨_,List.getElem?_eq_getElem (by rw [R1.out.len];exact hxN)⟩
        obtain ⟨xA,xc,xn,xxs⟩:=xx
        have HXX:=hd_ hxx
        have hxn:xn<=13000000:=by
         have h1:=(R1.out.rows _ _ hxx).1.1
         have h2:=HRA.out _ _ hxx
         have h3:=evAt_len (ev:=(L++[(a,[Value.int .i64 (i:Int),Value.int .i64 (b:Int)])])) (sz:=2) (fun e he=>by rcases List.mem_append.1 he with he|he;exact HL1.out e he;rw [List.mem_singleton] at he;rw [he];rfl) b
         (try simp only at h1 h2)
         rw [h2] at h1
         have h4:=HLL.out
         (try simp at h3)
         omega
        have g2:=R1.out.cell hxx
        (try simp only [RX.v] at g2)
        have x2:=(HB2.out _ C1.out).cell 2
        have e0:=BE.out.cell 0
        have e1:=BE.out.cell 1
        have HSS:=hd_ (show ∀ W':World,Below w10.heap.size w10 W'->((W'.cell? ⟨b1,2,none⟩=some (.slice (some ⟨g3,0,none⟩) N N)∧W'.cell? ⟨be,0,none⟩=some (.int .i64 (a:Int))∧W'.cell? ⟨be,1,none⟩=some (.int .i64 (b:Int)))∧W'.cell? ⟨g3,b,none⟩=some (.slice xA xn xc)) from fun W' hW=>⟨⟨(hW.cell (World.block_lt_of_cell? w10 _ x2)).trans x2,(hW.cell (World.block_lt_of_cell? w10 _ e0)).trans e0,(hW.cell (World.block_lt_of_cell? w10 _ e1)).trans e1⟩,(hW.cell (World.block_lt_of_cell? w10 _ g2)).trans g2⟩)
        clear hxx
        go_upto_region 14 with (fail)
        clear x2 e0 e1
        have g2d:=(HSS.out _ (bn_ w10 (.cells #[.int .i64 (i:Int),.int .i64 (a:Int)] 141))).2
        have g2b:=(HSS.out _ (bt_ bd_ (bn_ w10.drew (.cells #[.int .i64 (i:Int),.int .i64 (a:Int)] 141)))).2
        have hbe':=BE.out.lt
        refine wp_region_held_drew (S:=(fun w'=>w'.cell? ⟨b1,2,none⟩=some (.slice (some ⟨g3,0,none⟩) N N)∧w'.cell? ⟨be,0,none⟩=some (.int .i64 (a:Int))∧w'.cell? ⟨be,1,none⟩=some (.int .i64 (b:Int)))) (by kernel_rfl) ?_ (fun hh=>?_)
        ·(first|exact (HSS.out _ br_).1|exact (HSS.out _ bd_).1|exact (HSS.out _ (bt_ bd_ (bn_ _ _))).1|exact k1.out|exact k3.out)
        show wpAnyH _ _ _ _ _ _ #[false,false,false,false,false,false,false,false,false,false,false,false,false,false,false,false,false,false] _ _
        refine' stage1 (M:=fun (wx:World)=>(fun wx=>wx=w10.drew.alloc (.cells #[.int .i64 (i:Int),.int .i64 (a:Int)] 141)) wx) (fun h9_14=>?main) ?p9_14
        case main =>
         refine tk_ 0 oOf8 (v:=?_) ?_ ?_
         rotate_left
         ·intro w hSw;(try dsimp only at hSw);go_simp;(try with_reducible rfl)
         try simp only [Act.put,la_,lz_,ls_]
         refine tk_ 1 oOf9 (v:=?_) ?_ ?_
         rotate_left
         ·intro w hSw;(try dsimp only at hSw);go_simp;(try with_reducible rfl)
         try simp only [Act.put,la_,lz_,ls_]
         refine tk_ 2 oOf10 (v:=?_) ?_ ?_
         rotate_left
         ·intro w hSw;(try dsimp only at hSw);go_simp;(try with_reducible rfl)
         try simp only [Act.put,la_,lz_,ls_]
         refine tk_ 3 oOf11 (v:=?_) ?_ ?_
         rotate_left
         ·intro w hSw;(try dsimp only at hSw);go_simp;(try with_reducible rfl)
         try simp only [Act.put,la_,lz_,ls_]
         refine tk_ 4 oOf12 (v:=?_) ?_ ?_
         rotate_left
         ·intro w hSw;(try dsimp only at hSw);go_simp;(try with_reducible rfl)
         try simp only [Act.put,la_,lz_,ls_]
         refine tk_ 5 oOf13 (v:=?_) ?_ ?_
         rotate_left
         ·intro w hSw;(try dsimp only at hSw);go_simp;(try with_reducible rfl)
         try simp only [Act.put,la_,lz_,ls_]
         refine tk_ 6 oOf14 (v:=?_) ?_ ?_
         rotate_left
         ·intro w hSw;(try dsimp only at hSw);go_simp;(try with_reducible rfl)
         try simp only [Act.put,la_,lz_,ls_]
         refine tk_ 7 oOf15 (v:=?_) ?_ ?_
         rotate_left
         ·intro w hSw;(try dsimp only at hSw);go_simp;(try with_reducible rfl)
         try simp only [Act.put,la_,lz_,ls_]
         refine tk_ 8 oOf16 (v:=?_) ?_ ?_
         rotate_left
         ·intro w hSw;(try dsimp only at hSw);go_simp;(try with_reducible rfl)
         try simp only [Act.put,la_,lz_,ls_]
         refine tk_ 10 oOf18 (v:=?_) ?_ ?_
         rotate_left
         ·intro w hSw;(try dsimp only at hSw);go_simp;(try with_reducible rfl)
         try simp only [Act.put,la_,lz_,ls_]
         refine tk_ 11 oOf19 (v:=?_) ?_ ?_
         rotate_left
         ·intro w hSw;(try dsimp only at hSw);go_simp;(try with_reducible rfl)
         try simp only [Act.put,la_,lz_,ls_]
         refine tk_ 12 oOf20 (v:=?_) ?_ ?_
         rotate_left
         ·intro w hSw;(try dsimp only at hSw);go_simp;(try with_reducible rfl)
         try simp only [Act.put,la_,lz_,ls_]
         refine tk_ 13 oOf21 (v:=?_) ?_ ?_
         rotate_left
         ·intro w hSw;(try dsimp only at hSw);go_simp;(try with_reducible rfl)
         try simp only [Act.put,la_,lz_,ls_]
         refine rd_ [9,14] ?_
         refine AllReadyH.cons (o:=oOf17) rfl (fun K hK=>?_) ?_
         ·skip
          go_simp
          refine hK.out _ _ ?_ (fun hh=>?_)
          ·(first|exact (HSS.out _ br_).1|exact (HSS.out _ bd_).1|exact (HSS.out _ (bt_ bd_ (bn_ _ _))).1|exact k1.out|exact k3.out)
          clear hK K
          try simp only [Act.put,la_,lz_,ls_]
          refine rd_ [14] ?_
          refine AllReadyH.cons (o:=oOf22) rfl (fun K hK=>?_) ?_
          ·clear hh
           go_simp
           refine hK.out _ _ ?_ (fun hh=>?_)
           ·(first|exact (HSS.out _ br_).1|exact (HSS.out _ bd_).1|exact (HSS.out _ (bt_ bd_ (bn_ _ _))).1|exact k1.out|exact k3.out)
           clear hK K
           try simp only [Act.put,la_,lz_,ls_]
           exact h9_14 _ rfl
          exact AllReadyH.nil
         refine AllReadyH.cons (o:=oOf22) rfl (fun K hK=>?_) ?_
         ·skip
          go_simp
          refine hK.out _ _ ?_ (fun hh=>?_)
          ·(first|exact (HSS.out _ br_).1|exact (HSS.out _ bd_).1|exact (HSS.out _ (bt_ bd_ (bn_ _ _))).1|exact k1.out|exact k3.out)
          clear hK K
          try simp only [Act.put,la_,lz_,ls_]
          refine rd_ [9] ?_
          refine AllReadyH.cons (o:=oOf17) rfl (fun K hK=>?_) ?_
          ·clear hh
           go_simp
           refine hK.out _ _ ?_ (fun hh=>?_)
           ·(first|exact (HSS.out _ br_).1|exact (HSS.out _ bd_).1|exact (HSS.out _ (bt_ bd_ (bn_ _ _))).1|exact k1.out|exact k3.out)
           clear hK K
           try simp only [Act.put,la_,lz_,ls_]
           exact h9_14 _ rfl
          exact AllReadyH.nil
         exact AllReadyH.nil
        case p9_14 =>
         intro wx hMK
         subst hMK
         have hh:=(HSS.out _ (bt_ bd_ (bn_ w10.drew (.cells #[.int .i64 (i:Int),.int .i64 (a:Int)] 141)))).1
         refine rd_ [15] ?_
         refine AllReadyH.cons (o:=oOf23) rfl (fun K hK=>?_) ?_
         ·clear hh
          have O8:=hd_ (Rd.of_own (World.ownsRow_lit (base:=w10.drew.heap.size) (e:=141) (size:=2) w10.drew #[.int .i64 (i:Int),.int .i64 (a:Int)] 1 (by simp) (by unfold maxLen;omega) rfl))
          obtain ⟨A9,k9,u1,hrun9,hown9,hgr9,hat9⟩:=app_runs 139 141 139 Tryz.underlying139 _ 2 16 end_infoP rfl (by decide) (by decide) w6.heap.size xA xn xc xxs ((R1.out.rows b _ HXX.out).1.drew.alloc _) ⟨w10.drew.heap.size,0,none⟩ 1 1 [Value.int .i64 (i:Int),Value.int .i64 (a:Int)] O8.out (by simp [Value.oneCell']) (by omega) (by have:=C1.out.size;simp;omega)
          refine step_app_run (by rfl) (.tmp 84) (.tmp 89) 139 139 (by rfl) (.slice xA xn xc) (.slice (some ⟨w10.heap.size,0,none⟩) 1 1) (by rfl) (by rfl) hrun9 ?_
          have k2:=hd_ (R1.out.drew.still (w3:=u1) (by decide) HXX.out hgr9).1
          have f2:=(R1.out.drew.still (w3:=u1) (by decide) HXX.out hgr9).2
          have BW:=bt_ bd_ (bn_ w10.drew (.cells #[.int .i64 (i:Int),.int .i64 (a:Int)] 141))
          have BE9:=(BE.out.keep BW).grown hgr9 (fun e=>own_other ((R1.out.rows b _ HXX.out).1) BE.out (by decide) (by unfold RX.v;rw [own_blk];exact e.symm))
          have C9:=hd_ ((C1.out.belowB BW).grownHi hgr9 (fun j hj=>own_base (R1.out.rows b _ HXX.out).1 (by unfold RX.v;rw [own_blk];exact hj)))
          have k1:=hd_ (And.intro ((HB2.out _ C9.out).cell 2) (And.intro (BE9.cell 0) (BE9.cell 1)))
          have BE9:=hd_ (BE9.apart (p:=⟨g3,b,none⟩) HBG.out (.slice A9 (xn+1) k9))
          have k3:=hd_ (And.intro ((HB2.out _ (C9.out.setSame (i:=b) (.slice A9 (xn+1) k9))).cell 2) (And.intro (BE9.out.cell 0) (BE9.out.cell 1)))
          have k2':=k2.out
          have T9:=hd_ (R1.out.drew.turn (m:=1) (by decide) HXX.out hown9 hgr9 hat9)
          have U9:=hd_ (HRA.out.turn HXX.out A9 k9 (xn+1) [Value.int .i64 (i:Int),Value.int .i64 (a:Int)])
          have C9:=hd_ (C9.out.setSame (i:=b) (.slice A9 (xn+1) k9))
          clear BW hown9 hgr9 hat9 hrun9
          refine hK.out _ _ ?_ (fun hh=>?_)
          ·(first|exact (HSS.out _ br_).1|exact (HSS.out _ bd_).1|exact (HSS.out _ (bt_ bd_ (bn_ _ _))).1|exact k1.out|exact k3.out)
          clear hK K
          try simp only [Act.put,la_,lz_,ls_]
          refine tk_ 16 oOf24 (v:=?_) ?_ ?_
          rotate_left
          ·intro w hSw;(try dsimp only at hSw);go_simp;(try with_reducible rfl)
          try simp only [Act.put,la_,lz_,ls_]
          refine rd_ [17] ?_
          refine AllReadyH.cons (o:=oOf25) rfl (fun K hK=>?_) ?_
          ·clear hh
           go_simp
           refine hK.out _ _ ?_ (fun hh=>?_)
           ·(first|exact (HSS.out _ br_).1|exact (HSS.out _ bd_).1|exact (HSS.out _ (bt_ bd_ (bn_ _ _))).1|exact k1.out|exact k3.out)
           clear hK K
           try simp only [Act.put,la_,lz_,ls_]
           refine wpAnyH_done (by kernel_rfl) ?_ _
           clear k1 k2 f2 k3 k2' g2 g2b g2d
           go_wp2_with fail
           go_roundw
           case rel=>exact ⟨i+1,_,_,by omega,by go_num,T9.out,C9.out,by rw [HEV.out];exact U9⟩
           case measure=>simp [intOf];omega
          exact AllReadyH.nil
         exact AllReadyH.nil
       exact AllReadyH.nil
      exact AllReadyH.nil
   have hin':(i:Int)<(N:Int):=by omega
   have XX:=hd_ (HX.out _ CC.out)
   have a0:=XX.out.cell 0
   have a1:=XX.out.cell 1
   have a2:=XX.out.cell 2
   have HW:=hd_ (what_any W H T (i:Int))
   have HT:=hd_ (show trkB W H T i=(whK W H T (i:Int)==4||whK W H T (i:Int)==5) from rfl)
   generalize whK W H T (i:Int)=kk at HW HT
   go_wp2_with fail
   refine (HW.out _).mono ?_
   rintro e w5 ⟨rfl,hb5⟩
   have C5:=hd_ (CC.out.belowB hb5)
   have T5:=hd_ (Blk.keep TT.out hb5)
   clear a0 a1 a2 hb5 XX HW CC TT
   have x0:=(HB.out _ C5.out).cell 0
   have t0:=BitsB.at_ T5.out (a:=i) (by rw [trS_len (by omega)];exact hin)
   have t1:=Blk.free T5.out i
   by_cases c4:(kk==4)=true
   ·have HTV:=hd_ (trS_next (W:=W) (H:=H) (T:=T) hin (v:=true) (by rw [HT.out,c4];rfl))
    go_wp2_with fail
    go_roundw
    case rel=>exact ⟨i+1,by omega,by go_num,by rw [<- HTV.out];exact BitsB.set T5.out i true,C5.out.setSame _⟩
    case measure=>simp [intOf];omega
   have c4':(kk==4)=false:=by simpa using c4
   by_cases c5:(kk==5)=true
   ·have HTV:=hd_ (trS_next (W:=W) (H:=H) (T:=T) hin (v:=true) (by rw [HT.out,c4',c5];rfl))
    clear c4
    go_wp2_with fail
    go_roundw
    case rel=>exact ⟨i+1,by omega,by go_num,by rw [<- HTV.out];exact BitsB.set T5.out i true,C5.out.setSame _⟩
    case measure=>simp [intOf];omega
   have c5':(kk==5)=false:=by simpa using c5
   have HTV:=hd_ (trS_next (W:=W) (H:=H) (T:=T) hin (v:=false) (by rw [HT.out,c4',c5'];rfl))
   clear c4 c5
   go_wp2_with fail
   go_roundw
   case rel=>exact ⟨i+1,by omega,by go_num,by rw [<- HTV.out];exact BitsB.set T5.out i false,C5.out.setSame _⟩
   case measure=>simp [intOf];omega
end Go.Proofs.YtmkiphadkmodnaaGreat
