/- BfM, 16 -/
import Derived.RangeFuncBox
import Derived.RangeFuncLeaves
import Derived.RangeFuncWrites
import Derived.Shelf.Abstract
import Derived.WalkKit
import Derived.OwnWalkIn
import Derived.TacticsInMore
import Derived.LoopNIn
import Derived.LoopIn
import Derived.RegionIn
import Derived.BigQuiet
import Derived.Deep.RegionHeld3
import Derived.Deep.RegionWith
import Derived.Deep.QuietTactic
import Derived.Test.YtmkiphadkmodnaaGreatZBfM15
import Derived.Test.YtmkiphadkmodnaaGreatZBfM0
import Derived.Maps.AppendAt
set_option linter.all false
set_option maxRecDepth 100000
set_option maxHeartbeats 8000000
namespace Go.Proofs.YtmkiphadkmodnaaGreat
open Go.RowKit Go.Shelf
attribute [local go_sem] Oper.semAt_some
theorem chunk_any (A:Option Addr) (n c:Nat) (w:World) :
  Calls Tryz.prog 34 #[.slice A n c,.int .i64 8] w fun e w'=>e=.returned (.func (.func 90) #[] #[.pointer (some ⟨w.heap.size,0,none⟩),.pointer (some ⟨w.heap.size+1,0,none⟩)])∧w'=(w.alloc (.cells #[.slice A n c] 35)).alloc (.cells #[.int .i64 8] 3):=by
 have hmf:∀ (fn:Fn) (first cap:Array Value) (w:World),(Instr.makeFunc fn first cap).run Tryz.prog w=.ok (.func fn first cap) w:=fun _ _ _ _=>rfl
 go_enter Tryz.func34,Tryz.ntmps34
 go_wp2_with fail
 go_ret
 exact ⟨rfl,rfl⟩
def chL (n q:Nat):Nat:=min 8 (n-8*q)
def chV (A:Option Addr) (n q:Nat):Value:=.slice (A.map fun a=>a.add (8*q)) (chL n q) (chL n q)
def K2 (Bs Bn:Nat) (W W':World):Prop:=W'.heap[Bs]? = W.heap[Bs]?∧W'.heap[Bn]? = W.heap[Bn]?
theorem K2.trans {Bs Bn:Nat} {A B C:World} (h:K2 Bs Bn A B) (k:K2 Bs Bn B C):K2 Bs Bn A C:=⟨k.1.trans h.1,k.2.trans h.2⟩
theorem K2.put {Bs Bn:Nat} {w:World} (h1:Bs<w.heap.size) (h2:Bn<w.heap.size) (W:World) (l:Nat) (o o':Obj) (hl:w.heap.size<=l) (_:W.heap[l]? = some o) (_:o.isCells=false) (_:o.isWalk=false):K2 Bs Bn W (W.putObj l o') :=
 ⟨World.putObj_heap_other (by omega),World.putObj_heap_other (by omega)⟩
theorem K2.of_below {Bs Bn b:Nat} {W W':World} (h1:Bs<b) (h2:Bn<b) (h:Below b W W'):K2 Bs Bn W W':=⟨h.block Bs h1,h.block Bn h2⟩
theorem boxed_below {wx wy:World} {b:Nat} {t:TypeId} {v:Value} (h:Boxed wx b t v) (hb:Below wx.heap.size wx wy):Boxed wy b t v:=(hb.block b h.lt).trans h
theorem chunk1 (m:Nat) (hm:1<=m) (Bs Bn:Nat) (A:Option Addr) (n c:Nat) (hA:A=none->c=0) (hc:n<=c) (hn:n<=100000000) (w:World) (hBs:Boxed w Bs 35 (.slice A n c)) (hBn:Boxed w Bn 3 (.int .i64 8)) :
  SeqStopsK Fence.wide m Tryz.prog 90 #[.pointer (some ⟨Bs,0,none⟩),.pointer (some ⟨Bn,0,none⟩)] (fun q:Nat=>#[chV A n q]) (K2 Bs Bn) (fun ys=>ys=List.range ((n+7)/8)) (fun _=>True) ((n+7)/8) w:=by
 intro l J Jx W hW hJ hJx hY h0
 refine callsIn_of_wp Tryz.func90 rfl trivial ?_ rfl
 simp only [Tryz.ntmps90,List.size_toArray,List.length_cons,List.length_nil,Nat.reduceAdd,Nat.reduceSub,Array.replicate_succ,Array.replicate_zero,List.push_toArray,List.append_toArray,List.nil_append,List.cons_append]
 have X1:=hd_ (boxed_below hBs hW)
 have X2:=hd_ (boxed_below hBn hW)
 have b1:=X1.out.cell
 have b2:=X2.out.cell
 have HY:=hd_ hY
 have HJ:=hd_ hJ
 clear hW hY hJ hJx
 gi_wp2
 gi_loopw [4] (fun i wr=>∃ q:Nat,8*q<=n+7∧i=.int .i64 ((8*q:Nat):Int)∧J (List.range q) wr∧K2 Bs Bn W wr) (fun i _=>n-(intOf i).toNat)
 case atStart=>exact ⟨0,by omega,rfl,h0,rfl,rfl⟩
 case round =>
  obtain ⟨q,hq,rfl,hJs,hnx⟩:=hrel
  have Y1:Hid (Boxed wr Bs 35 (.slice A n c)):=hd_ (hnx.1.trans X1.out)
  have Y2:Hid (Boxed wr Bn 3 (.int .i64 8)):=hd_ (hnx.2.trans X2.out)
  have d1:=Y1.out.cell
  have d2:=Y2.out.cell
  have HNX:=hd_ hnx
  clear hnx
  by_cases hlt:8*q<n
  ·cases A with
   | none=>have:=hA rfl;omega
   | some ad =>
    have hyk:=fun k:Nat=>HY.out _ q (wr.drewN k) (HJ.out _ _ _ none hJs ⟨rfl,rfl,rfl,Nat.le_refl _,fun _ _ _=>rfl⟩ (fun r h=>by cases h)) (by rw [List.length_range];omega)
    have HYK:=hd_ hyk
    clear hyk
    obtain ⟨i8,hi8⟩:∃ i8,8*q=i8:=⟨_,rfl⟩
    have HI8:=hd_ hi8
    have hch:chV (some ad) n q=.slice (some (ad.add i8)) (min 8 (n-i8)) (min 8 (n-i8)):=by unfold chV chL;rw [hi8];rfl
    rw [hi8] at hlt hq ⊢
    obtain ⟨e8,he8⟩:∃ e8,min 8 (n-i8)=e8:=⟨_,rfl⟩
    have hb8:i8+e8<=n:=by omega
    have he9:e8<=8:=by omega
    rw [he8] at hch
    have HCH:=hd_ hch
    have hmin:min (8:Int) ((n-i8:Nat):Int)=(e8:Int):=by omega
    have g0:(0:Int)<=(i8:Int):=by omega
    have g1:(i8:Int)<=(n:Int):=by omega
    have g2:((n:Int)-(i8:Int))=((n-i8:Nat):Int):=by omega
    have g3:i8<=n:=by omega
    have g4:i8<=c:=by omega
    have g5:¬ e8=0:=by omega
    have g6:0<e8:=by omega
    have g7:¬ c-i8=0:=by omega
    have g8:¬ n-i8=0:=by omega
    clear hch he8 hi8
    gi_wp2
    refine wpIn_wide.2 ?_
    go_quiet (fail)
    obtain ⟨fn,tmps,assign,body,hy,hR⟩:=HYK.out nq
    rw [HCH.out] at hy
    clear hmin g2
    gi_wp2
    refine hR.mono ?_
    rintro e W3 (⟨rfl,hJ3,hk3⟩|⟨rfl,hJx3⟩)
    ·have Y3:Hid (Boxed W3 Bn 3 (.int .i64 8)):=hd_ (hk3.2.trans Y2.out)
     have HK3:=hd_ hk3
     clear hk3
     have hcell:=Y3.out.cell
     have hrs:List.range q++[q]=List.range (q+1):=List.range_succ.symm
     have HRS:=hd_ hrs
     clear hrs
     gi_wp2
     go_roundw
     case rel=>exact ⟨q+1,by have:=HI8.out;omega,by have:=HI8.out;go_num,by rw [<- HRS.out];exact hJ3,HNX.out.trans ⟨HK3.out.1,HK3.out.2⟩⟩
     case measure=>simp [intOf];omega
    ·gi_wp2
     refine bodyPost_ret (results_none rfl _ _ _) rfl ?_
     exact ⟨⟨_,rfl⟩,.inr ⟨_,trivial,hJx3⟩⟩
  ·have hqe:q=(n+7)/8:=by omega
   have HQE:=hd_ hqe
   have hd:decide (8*q<n)=false:=decide_eq_false hlt
   clear hqe
   obtain ⟨i8,hi8⟩:∃ i8,8*q=i8:=⟨_,rfl⟩
   rw [hi8] at hd ⊢
   clear hi8
   gi_wp2
   go_end0
   exact ⟨⟨_,rfl⟩,.inl ⟨_,by rw [<- HQE.out],hJs⟩⟩
theorem put1 (m b base:Nat) (A:Option Addr) (k c:Nat) (L:List Nat) (w:World) (hB:Boxed w b 44 (.slice A k c)) (ho:w.ownsRow base 5 1 (.slice A k c) k (bys L)) (hl:∀ x ∈ L,x<256) (hbase:base<=w.heap.size) (hbb:b<base) (hk:k<=1000000) :
  CallsDIn Fence.wide m Tryz.prog 31 #[.pointer (some ⟨b,0,none⟩)] .returning w fun e u' w'=>u'=.returning∧e=.returned (.tuple #[])∧∃ A' c',w'.cell? ⟨b,0,none⟩=some (.slice A' (k+4) c')∧w'.ownsRow base 5 1 (.slice A' (k+4) c') (k+4) (bys (L++four (sumB L)))∧Below b w w':=by
 have hlen:L.length=k:=by have:=ho.1;rw [bys_length] at this;omega
 have hs:=sumB_lt L
 have hbs:=fun (W:World) (hr:Rd W 1 A k c (bys L))=>bsum_any W A k c L hr hl (by omega)
 have hbp:∀ (W:World) (hw:W.ownsRow base 5 1 (.slice A k c) k (bys L)) (hb:base<=W.heap.size),Calls Tryz.prog 32 #[.slice A k c,.int .u32 (sumB L:Int),.int .i64 4] W fun e w'=>∃ A' c',e=.returned (.slice A' (k+4) c')∧Below base W w'∧w'.ownsRow base 5 1 (.slice A' (k+4) c') (k+4) (bys (L++four (sumB L))):=by
  intro W hw hb
  have:=bput_any W base A k c L hw hb (sumB L) 4 hs (by omega) (by omega)
  rw [bigTo_four] at this
  exact this
 have HBS:=hd_ hbs
 have HBP:=hd_ hbp
 have HO:=hd_ ho
 have HB:=hd_ hB
 have c0:=hB.cell
 have f0:=hB.frozen
 clear hbs hbp ho hB hl
 refine callsDIn_of_wp Tryz.func31 rfl trivial ?_
 simp only [Tryz.ntmps31,List.size_toArray,List.length_cons,List.length_nil,Nat.reduceAdd,Nat.reduceSub,Array.replicate_succ,Array.replicate_zero,List.push_toArray,List.append_toArray,List.nil_append,List.cons_append]
 refine wpIn_wide.2 ?_
 go_wp2_with fail
 go_region_with (first
  | (go_at_call 13;refine (HBS.out _ ?_).mono ?_;exact Rd.of_own (own_drewN HO.out 1);rintro e w1 ⟨rfl,rfl⟩)
  | (go_at_call 32;refine (HBP.out _ ?_ ?_).mono ?_;exact own_drewN HO.out 1;exact hbase;rintro e w1 ⟨A1,c1,rfl,hb1,ho1⟩;have d0:=(hb1.cell (p:=⟨b,0,none⟩) hbb).trans c0;have e0:=(hb1.frozen (p:=⟨b,0,none⟩) hbb).trans f0;have hb1:Below base w w1:=⟨hb1.os,hb1.tape,hb1.output,hb1.size,hb1.block⟩;have HB1:=hd_ hb1;have HO1:=hd_ ho1;clear hb1 ho1))
 all_goals
  go_end0
  have hne:(Value.slice A1 (k+4) c1).ownBlock≠some b:=fun e=>by have:=own_base HO1.out e;omega
  refine ⟨rfl,A1,c1,World.cell?_setCell_same' _ _ _ (by rw [d0];rfl),?_,?_⟩
  ·exact HO1.out.kept (grownBy_setCell' w1 b _) (.inr hne)
  ·exact (HB1.out.mono (Nat.le_of_lt hbb)).setCell (p:=⟨b,0,none⟩) (Nat.le_refl _) _
end Go.Proofs.YtmkiphadkmodnaaGreat
namespace Go.Proofs.YtmkiphadkmodnaaGreat
open Go.RowKit Go.Shelf
theorem grown_then {w wr w2:World} {row b:Option Nat} (h:w.grownBy wr row) (hv:b=row∨∀ g,b=some g->w.heap.size<=g) (h2:wr.grownBy w2 b):w.grownBy w2 row:=by
 refine ⟨h2.os.trans h.os,h2.tape.trans h.tape,h2.output.trans h.output,Nat.le_trans h.size h2.size,fun k hk hne=>?_⟩
 refine (h2.block k (Nat.lt_of_lt_of_le hk h.size) ?_).trans (h.block k hk hne)
 rcases hv with rfl|hv
 ·exact hne
 ·exact fun e=>by have:=hv k e.symm;omega
theorem fresh_then {w wr:World} {row b b':Option Nat} (hs:w.heap.size<=wr.heap.size) (hv:b=row∨∀ g,b=some g->w.heap.size<=g) (h:b'=b∨b'=some wr.heap.size):b'=row∨∀ g,b'=some g->w.heap.size<=g:=by
 rcases h with rfl|rfl
 ·exact hv
 ·exact .inr fun g e=>by obtain rfl:=Option.some.inj e;exact hs
section
variable {ops : Array Oper} {rest : List Oper} {o : Oper} {a : Act} {Q : Exit → Act → World → Prop}
theorem wpList_app_byte_at (hgd:o.guard=none) (s x:Operand) (ho:o.op=.call { callee:=.builtin .append,args:=#[s,x],argTypes:=#[44,44] })
  {W:World} (base:Nat) (A:Option Addr) (k c:Nat) (L:List Nat) (hs:a.eval s=.slice A k c) (O:W.ownsRow base 5 1 (.slice A k c) k (bys L)) (z:Nat) (v:Int) (hv:v=(z:Int)) (hx:a.eval x=.slice (some ⟨W.heap.size,0,none⟩) 1 1)
  (hk:k<=100000000) (hb:base<=W.heap.size)
  (h:∀ A' c' w',w'.ownsRow base 5 1 (.slice A' (k+1) c') (k+1) (bys (L++[z]))->W.grownBy w' (Value.slice A k c).ownBlock->((Value.slice A' (k+1) c').ownBlock=(Value.slice A k c).ownBlock∨(Value.slice A' (k+1) c').ownBlock=some (W.heap.size+1))->wpList Tryz.prog ops Q rest (a.put o.dst (.slice A' (k+1) c')) w') :
  wpList Tryz.prog ops Q (o::rest) a (W.alloc (.cells #[.int .u8 v] 5)):=by
 obtain ⟨i0,hi0,hz0,hz1,hz2⟩:=info_parts byte_info
 have hr:=rd_bys1 W 5 z v hv
 refine wpList_append_own_at _ hgd s x 44 ho base 5 i0 (.int .u8 0) 1 1 Tryz.underlying44 hi0 hz0 hz1 hz2 rfl (by decide) (.slice A k c) k (bys L) hs (O.alloc _) ⟨W.heap.size,0,none⟩ 1 1 (bys [z]) hx rfl ?_ ?_ ?_ ?_ ?_ ?_
 ·intro j u hj
  obtain ⟨a',e,-,hc⟩:=hr.read j u hj
  obtain rfl:=Option.some.inj e
  exact hc
 ·intro u hu
  obtain ⟨z,-,rfl⟩:=List.mem_map.1 hu
  rfl
 ·unfold maxLen;omega
 ·omega
 ·simp;omega
 ·intro v' w' hown hg _ hat
  obtain ⟨A',c',rfl⟩:=own_slice hown
  refine h A' c' w' ?_ ((World.grownBy_alloc W _ _).trans hg) (by simpa using hat)
  rw [bys_append]
  exact hown
end
theorem bput_grown (w:World) (base:Nat) (A:Option Addr) (k c:Nat) (L:List Nat) (ho:w.ownsRow base 5 1 (.slice A k c) k (bys L)) (hb:base<=w.heap.size) (n m:Nat) (hn:n<4294967296) (hm:m<=4) (hk:k<=10000000) :
  Calls Tryz.prog 32 #[.slice A k c,.int .u32 (n:Int),.int .i64 (m:Int)] w fun e w'=>∃ A' c',e=.returned (.slice A' (k+m) c')∧w.grownBy w' (Value.slice A k c).ownBlock∧w'.ownsRow base 5 1 (.slice A' (k+m) c') (k+m) (bys (L++bigTo n m m)):=by
 have HO:=hd_ ho
 clear ho
 obtain ⟨R,hR⟩:∃ R:Ending->World->Prop,(fun e w'=>∃ A' c',e=.returned (.slice A' (k+m) c')∧w.grownBy w' (Value.slice A k c).ownBlock∧w'.ownsRow base 5 1 (.slice A' (k+m) c') (k+m) (bys (L++bigTo n m m)))=R:=⟨_,rfl⟩
 rw [hR]
 have HR:=hd_ hR
 clear hR
 obtain ⟨row,hrow⟩:∃ row,(Value.slice A k c).ownBlock=row:=⟨_,rfl⟩
 have HROW:=hd_ hrow
 clear hrow
 go_enter Tryz.func32,Tryz.ntmps32
 go_wp2_with fail
 go_loopw [0,7] (fun v i wx=>∃ (j:Nat) (A':Option Addr) (c':Nat),j<=m∧i=.int .i64 ((m:Int)-1-(j:Int))∧v=.slice A' (k+j) c'∧w.grownBy wx row∧(v.ownBlock=row∨∀ g,v.ownBlock=some g->w.heap.size<=g)∧wx.ownsRow base 5 1 (.slice A' (k+j) c') (k+j) (bys (L++bigTo n m j))) (fun _ i _=>(intOf i+1).toNat)
 case atStart=>exact ⟨0,A,c,by omega,by simp,rfl,World.grownBy.refl _ _,.inl HROW.out,by simpa [bigTo] using HO.out⟩
 case round =>
  obtain ⟨j,A1,c1,hj,rfl,rfl,hbb,hfr,hown⟩:=hrel
  have HB:=hd_ hbb
  have HF:=hd_ hfr
  have H1:=hd_ hown
  have hsz:base<=wr.heap.size:=by have:=hbb.size;omega
  clear hbb hown hfr
  by_cases hlt:j<m
  ·obtain ⟨q,hq⟩:∃ q:Nat,m-1-j=q:=⟨_,rfl⟩
   have hqi:(m:Int)-1-(j:Int)=(q:Int):=by omega
   rw [hqi]
   have hnx:=bigTo_next n m j
   rw [hq] at hnx
   have HNX:=hd_ hnx
   have hq4:q<=3:=by omega
   clear hnx
   have hv:(n:Int)/2 ^ (8*q)%256=((n/2 ^ (8*q)%256:Nat):Int):=by
    rw [Int.natCast_emod,Int.natCast_ediv,Int.natCast_pow];rfl
   have HV:=hd_ hv
   clear hv
   go_wp2_with (at_builtin;refine wpList_app_byte_at rfl (.tmp 14) (.tmp 20) rfl base A1 (k+j) c1 (L++bigTo n m j) rfl H1.out (n/2 ^ (8*q)%256) _ HV.out rfl (by omega) hsz ?_)
   intro A2 c2 w2 hown2 hg2 hat2
   have B2:=hd_ (grown_then HB.out HF.out hg2)
   have F2:=hd_ (fresh_then (w:=w) (wr:=wr.alloc (.cells #[] 0)) (by have:=HB.out.size;simp;omega) HF.out (by simpa using hat2))
   have O2:=hd_ hown2
   clear hown2 hg2 hat2
   go_wp2_with fail
   go_roundw
   case rel=>exact ⟨j+1,A2,c2,by omega,by go_num,rfl,B2.out,F2.out,by rw [HNX.out,<- Nat.add_assoc];exact O2.out⟩
   case measure=>simp [intOf]
  ·obtain rfl:j=m:=by omega
   have hneg:decide ((0:Int)<=(j:Int)-1-(j:Int))=false:=decide_eq_false (by omega)
   go_wp2_with fail
   rw [<- HR.out]
   exact ⟨A1,c1,rfl,by rw [HROW.out];exact HB.out,H1.out⟩
theorem btwo_grown (w:World) (base:Nat) (A:Option Addr) (k c:Nat) (L:List Nat) (ho:w.ownsRow base 5 1 (.slice A k c) k (bys L)) (hb:base<=w.heap.size) (n:Int) (hn:0<=n∧n<=65535) (hk:k<=10000000) :
  Calls Tryz.prog 33 #[.slice A k c,.int .i64 n] w fun e w'=>∃ A' c',e=.returned (.slice A' (k+2) c')∧w.grownBy w' (Value.slice A k c).ownBlock∧w'.ownsRow base 5 1 (.slice A' (k+2) c') (k+2) (bys (L++two n.toNat)):=by
 obtain ⟨m,rfl⟩:∃ m:Nat,n=(m:Int):=⟨n.toNat,by omega⟩
 have hp:=bput_grown w base A k c L ho hb m 2 (by omega) (by omega) hk
 rw [bigTo_two] at hp
 have HP:=hd_ hp
 clear hp ho
 go_enter Tryz.func33,Tryz.ntmps33
 go_wp2_with fail
 refine HP.out.mono ?_
 rintro e w1 ⟨A1,c1,rfl,hb1,ho1⟩
 go_wp2_with fail
 go_ret
 exact ⟨A1,c1,rfl,hb1,ho1⟩
end Go.Proofs.YtmkiphadkmodnaaGreat
