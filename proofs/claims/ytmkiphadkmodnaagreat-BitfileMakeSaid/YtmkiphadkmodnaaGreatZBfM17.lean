/- BfM, 17 -/
import Derived.ArgAppend
import Derived.Lib.SlBytesConst
import Derived.Test.YtmkiphadkmodnaaGreatZBfM16
import Derived.Test.YtmkiphadkmodnaaGreatZBfM0
set_option linter.all false
set_option maxRecDepth 100000
set_option maxHeartbeats 8000000
namespace Go.Proofs.YtmkiphadkmodnaaGreat
open Go.RowKit Go.Shelf
attribute [local go_sem] Oper.semAt_some
structure PW (w0 wx:World) (C:Cfg) (A:Option Addr) (k c:Nat) (L:List Nat):Prop where
 below:Below w0.heap.size w0 wx
 box:Box7 wx w0.heap.size C
 cell:Boxed wx (w0.heap.size+1) 44 (.slice A k c)
 row:wx.ownsRow (w0.heap.size+2) 5 1 (.slice A k c) k (bys L)
section
variable {w0 wx wy : World} {C : Cfg} {A A' : Option Addr} {k c k' c' : Nat} {L L' : List Nat}
theorem PW.size (h:PW w0 wx C A k c L):w0.heap.size+2<=wx.heap.size:=h.cell.lt
theorem PW.keep (h:PW w0 wx C A k c L) (hb:Below wx.heap.size wx wy):PW w0 wy C A k c L :=
 ⟨bt_ h.below hb,h.box.below hb,boxed_below h.cell hb,own_keep h.row hb⟩
theorem PW.drewN (h:PW w0 wx C A k c L) (n:Nat):PW w0 (wx.drewN n) C A k c L:=h.keep (below_drewN br_ n)
theorem PW.set (h:PW w0 wx C A k c L) (hb:Below (w0.heap.size+2) wx wy) (ho:wy.ownsRow (w0.heap.size+2) 5 1 (.slice A' k' c') k' (bys L')) :
  PW w0 (wy.setCell ⟨w0.heap.size+1,0,none⟩ (.slice A' k' c')) C A' k' c' L':=by
 have hne:(Value.slice A' k' c').ownBlock≠some (w0.heap.size+1):=fun e=>by have:=own_base ho e;omega
 have hbx:Boxed wy (w0.heap.size+1) 44 (.slice A k c):=(hb.block _ (by omega)).trans h.cell
 refine ⟨(h.below.trans (hb.mono (by omega))).setCell (p:=⟨w0.heap.size+1,0,none⟩) (by simp) _,?_,hbx.set _,ho.kept (grownBy_setCell' wy _ _) (.inr hne)⟩
 have h7:=box7_low h.box hb (by omega)
 exact box7_low h7 ((Below.refl (w0.heap.size+1) wy).setCell (p:=⟨w0.heap.size+1,0,none⟩) (Nat.le_refl _) _) (by omega)
end
theorem cell_second (w:World) (cs:Array Value) (t:TypeId) (fr:Nat × Nat) (o:Obj) (j:Nat) (u:Value) (hj:cs[j]? = some u):((w.alloc (.cells cs t fr)).alloc o).cell? ⟨w.heap.size,j,none⟩=some u:=by
 have h:((w.alloc (.cells cs t fr)).alloc o).heap[w.heap.size]? = some (.cells cs t fr):=(Below.heap_alloc _ _ _ (by simp)).trans (World.alloc_heap_new w _)
 simp [World.cell?,h,hj]
theorem add_at (b j:Nat):Addr.add ⟨b,0,none⟩ j=⟨b,j,none⟩:=by simp [Addr.add];exact fun h=>h.symm
theorem btwo2 (w:World) (base:Nat) (A:Option Addr) (k c:Nat) (L:List Nat) (ho:w.ownsRow base 5 1 (.slice A k c) k (bys L)) (hb:base<=w.heap.size) (n:Int) (hn:0<=n∧n<=65535) (hk:k<=10000000) :
  Calls Tryz.prog 33 #[.slice A k c,.int .i64 n] w fun e w'=>∃ A' c',e=.returned (.slice A' (k+2) c')∧Below base w w'∧w'.ownsRow base 5 1 (.slice A' (k+2) c') (k+2) (bys (L++two n.toNat)):=btwo_any w base A k c L ho hb n hn hk
theorem PW.own {w0 wx wy:World} {C:Cfg} {A:Option Addr} {k c:Nat} {L:List Nat} {B0:Nat} {row:Option Nat} (h:PW w0 wx C A k c L) (hg:wx.grownBy wy row) (hr:∀ r,row=some r->B0<=r∧∃ o:Obj,wx.heap[r]? = some o∧o.isCells=false) (hB:w0.heap.size+2<=B0):PW w0 wy C A k c L:=by
 have hz:=h.size
 have b2:Below (w0.heap.size+2) wx wy:=br_.grown hg hz (fun j hj=>by have:=(hr j hj).1;omega)
 refine ⟨h.below.trans (b2.mono (by omega)),box7_low h.box b2 (by omega),(b2.block _ (by omega)).trans h.cell,?_⟩
 cases row with
 | none=>exact h.row.kept hg (Decidable.em _)
 | some r =>
  refine h.row.kept hg (.inr fun e=>?_)
  obtain ⟨-,o,ho,hc⟩:=hr r rfl
  rcases h.row.2 with ⟨hv,hn⟩|⟨g,cap,cur,hv,hgb,hh,-⟩
  ·rw [hv] at e;cases e
  ·rw [hv] at e
   obtain rfl:g=r:=by simpa [Value.ownBlock] using e
   rw [hh] at ho
   obtain rfl:=Option.some.inj ho
   cases hc
theorem boxed_own {wx wy:World} {b:Nat} {t:TypeId} {v:Value} {row:Option Nat} (h:Boxed wx b t v) (hg:wx.grownBy wy row) (hr:∀ r,row=some r->∃ o:Obj,wx.heap[r]? = some o∧o.isCells=false):Boxed wy b t v:=by
 refine h.kept hg fun e=>?_
 obtain ⟨o,ho,hc⟩:=hr b e.symm
 have hh:wx.heap[b]? = some (.cells #[v] t (0,0)):=h
 rw [hh] at ho
 obtain rfl:=Option.some.inj ho
 cases hc
theorem own_ne_obj {w:World} {base n D:Nat} {e:TypeId} {size:Nat} {v:Value} {xs:List Value} {o:Obj} (h:w.ownsRow base e size v n xs) (hd:w.heap[D]? = some o) (hc:o.isCells=false):some D≠v.ownBlock:=by
 rcases h.2 with ⟨rfl,_⟩|⟨g,cap,cur,rfl,_,hh,_⟩
 ·simp [Value.ownBlock]
 ·intro e
  obtain rfl:D=g:=by simpa [Value.ownBlock] using e
  rw [hh] at hd
  obtain rfl:=Option.some.inj hd
  cases hc
theorem range_one {P:Program} {g:Operand} {p:Nat} {assign body:Code} {Q:Exit->Act->World->Prop} {a:Act} {w:World} {n:Nat} (h1:1<=n) {gf:Nat} {lb:Array Value} (hg:a.eval g=.func (.func gf) #[] lb) (eg:∀ args w,(callFunc gf args).run P w=.ok (.enter gf args) w)
  {enc:Nat->Value} {Kp:World->World->Prop} {S Sp:List Nat->Prop} {N:Nat} (hseq:SeqStopsK Fence.wide (n-1) P gf lb (fun q=>#[enc q]) Kp S Sp N w)
  (hKt:∀ {A B C:World},Kp A B->Kp B C->Kp A C) (hKb:∀ (W:World) (l:Nat) (o o':Obj),w.heap.size<=l->W.heap[l]? = some o->o.isCells=false->o.isWalk=false->Kp W (W.putObj l o'))
  (I:List Nat->World->Prop) (hI:OwnFrom w.heap.size I) (h0:I [] w) (q:Nat)
  (hassign:∀ (l:Nat) (x:Nat) (W:World) (K:Act->World->Prop),K { tmps:=(a.tmps.setIfInBounds p (enc x)).setIfInBounds q (enc x),defers:=[] } W ->
   assign.wpIn (Fence.wide.inRound l) (n-1-1) P (Exit.then K (fun _ _ _=>False)) { tmps:=a.tmps.setIfInBounds p (enc x),defers:=[] } W)
  (hbody:∀ (l:Nat) (pre:List Nat) (x:Nat) (W:World),I pre W->pre.length<N->body.wpIn (Fence.wide.inRound l) (n-1-1) P (ownPostG w.heap.size Kp I (fun _ _ _=>False) (pre++[x]) W) { tmps:=(a.tmps.setIfInBounds p (enc x)).setIfInBounds q (enc x),defers:=[] } W)
  (hdone:∀ (D:Nat) (xs:List Nat) (W:World),w.heap.size<=D->S xs->I xs W->W.heap[D]? = some (.deferred (some []))->Q .normal { a with defers:={ target:=.collected D,args:=#[] }::a.defers } W) :
  (Code.rangeFunc g #[p] assign body).wp P Q a w :=
 (wpIn_wide (n:=n)).1 (wpIn_rangeFunc_ownG (F:=Fence.wide) (ps:=#[p]) rfl h1 hg trivial eg hseq hKt hKb br_ (fun _=>rfl) I (fun _ _ _=>False) hI (fun _ _ _ _ _ hs _ _=>hs) h0 _ (fun l x W K hK=>by have:=hassign l x W K hK;simpa using this) hbody hdone (fun _ _ _ _ _ _ h _=>h.elim))
section
variable {ops : Array Oper} {rest : List Oper} {o : Oper} {a : Act} {Q : Exit → Act → World → Prop} {F : Fence} {nF : Nat}
theorem wpListIn_app_byte (hgd:o.guard=none) (s x:Operand) (ho:o.op=.call { callee:=.builtin .append,args:=#[s,x],argTypes:=#[44,44] })
  {W:World} (base:Nat) (A:Option Addr) (k c:Nat) (L:List Nat) (hs:a.eval s=.slice A k c) (O:W.ownsRow base 5 1 (.slice A k c) k (bys L)) (z:Nat) (v:Int) (hv:v=(z:Int)) (hx:a.eval x=.slice (some ⟨W.heap.size,0,none⟩) 1 1)
  (hk:k<=100000000) (hb:base<=W.heap.size)
  (h:∀ A' c' w',w'.ownsRow base 5 1 (.slice A' (k+1) c') (k+1) (bys (L++[z]))->(W.alloc (.cells #[.int .u8 v] 5)).grownBy w' (Value.slice A k c).ownBlock->wpListIn F nF Tryz.prog ops Q rest (a.put o.dst (.slice A' (k+1) c')) w') :
  wpListIn F nF Tryz.prog ops Q (o::rest) a (W.alloc (.cells #[.int .u8 v] 5)):=by
 obtain ⟨i0,hi0,hz0,hz1,hz2⟩:=info_parts byte_info
 have hr:=rd_bys1 W 5 z v hv
 refine wpListIn_append_own _ hgd s x 44 ho base 5 i0 (.int .u8 0) 1 1 Tryz.underlying44 hi0 hz0 hz1 hz2 rfl (by decide) (.slice A k c) k (bys L) hs (O.alloc _) ⟨W.heap.size,0,none⟩ 1 1 (bys [z]) hx rfl ?_ ?_ ?_ ?_ ?_ ?_
 ·intro j u hj
  obtain ⟨a',e,-,hc⟩:=hr.read j u hj
  obtain rfl:=Option.some.inj e
  exact hc
 ·intro u hu
  obtain ⟨z,-,rfl⟩:=List.mem_map.1 hu
  rfl
 ·unfold maxLen;omega
 ·omega
 ·simp;omega
 ·intro v' w' hown hg _
  obtain ⟨A',c',rfl⟩:=own_slice hown
  refine h A' c' w' ?_ hg
  rw [bys_append]
  exact hown
end
def chB (l:List Bool) (q:Nat):Nat:=byteB ((l.drop (8*q)).take 8)
theorem or_bit (s j:Nat) (hs:s<2 ^ j) (hj:j<8):bits .or .u8 (s:Int) ((2 ^ j:Nat):Int)=((s+2 ^ j:Nat):Int):=by
 have h8:2 ^ j<=2 ^ 7:=Nat.pow_le_pow_right (by omega) (by omega)
 rw [u8_or_nat s (2 ^ j) (by omega) (by omega)]
 have:=Nat.two_pow_add_eq_or_of_lt hs 1
 rw [Nat.mul_one] at this
 rw [Nat.or_comm,<- this,Nat.add_comm]
def BPUT (C:Cfg) (w:World) (R:Ending->World->Prop):Prop :=
 Calls Tryz.prog 11 #[.agg #[.int .i64 C.W,.int .i64 C.H,.int .i64 C.T,.slice C.AT C.tiles.length C.cT,.slice C.AO C.on.length C.cO,.slice C.AI C.ins.length C.cI,.slice C.AU C.outs.length C.cU]] w R
theorem put_exit (C:Cfg) (w wr:World) (D k c:Nat) (A:Option Addr) (tmps:Array Value) (hs:(∀ x ∈ C.body,x<256)∧C.body.length<=100000) (hp:PW w wr C A k c C.body) (hk:k=C.body.length) (hd:wr.heap[D]? = some (.deferred (some []))) (hD:w.heap.size<=D)
  (h2:tmps.getD 2 undef=.pointer (some ⟨w.heap.size+1,0,none⟩)) (h3:tmps.getD 3 undef=.int .i64 0) :
  bodyPostM Fence.wide 9 Tryz.prog Tryz.f11 (BytesOut C w) .ret { tmps:=tmps,defers:=[{ target:=.collected D,args:=#[] },{ target:=.fn (.func 31) #[.pointer (some ⟨w.heap.size+1,0,none⟩)],args:=#[] }] } wr:=by
 refine ⟨by simp,.inl ⟨D,_,rfl,run_takeDeferred hd,?_⟩⟩
 have hDl:D<wr.heap.size:=(Array.getElem?_eq_some_iff.1 hd).1
 have hDb:D≠w.heap.size+1:=fun e=>by
  have h1:wr.heap[w.heap.size+1]? = some (.cells #[.slice A k c] 44 (0,0)):=hp.cell
  rw [e,h1] at hd;cases hd
 have hg:wr.grownBy (wr.putObj D (.deferred none)) (some D):=⟨rfl,rfl,rfl,by simp [World.putObj],fun j _ hj=>World.putObj_heap_other (fun e=>hj (by rw [e]))⟩
 have hb1:Boxed (wr.putObj D (.deferred none)) (w.heap.size+1) 44 (.slice A k c):=hp.cell.kept hg (fun e=>hDb (by simpa using e.symm))
 have ho1:(wr.putObj D (.deferred none)).ownsRow (w.heap.size+2) 5 1 (.slice A k c) k (bys C.body):=hp.row.kept hg (.inr fun e=>own_ne_obj hp.row hd rfl e.symm)
 have hsz:w.heap.size+2<=(wr.putObj D (.deferred none)).heap.size:=by have:=hp.size;simpa [World.putObj] using this
 refine ⟨by simp,.inr ⟨fun _=>by omega,.func 31,#[.pointer (some ⟨w.heap.size+1,0,none⟩)],31,#[.pointer (some ⟨w.heap.size+1,0,none⟩)],rfl,?_,fun _ _=>trivial,?_⟩⟩
 ·have eg:=enters_of Tryz.func31 (by kernel_rfl) rfl #[.pointer (some ⟨w.heap.size+1,0,none⟩)] (wr.putObj D (.deferred none))
  simp [invoke,eg]
 ·refine (put1 8 (w.heap.size+1) (w.heap.size+2) A k c C.body _ hb1 ho1 hs.1 hsz (by omega) (by omega)).mono ?_
  rintro e u' w' ⟨rfl,rfl,A',c',hc,ho,hbb⟩
  refine ⟨.tuple #[.slice A' (k+4) c',.int .i64 0],?_,?_⟩
  ·have h2':tmps[2]?.getD undef=.pointer (some ⟨w.heap.size+1,0,none⟩):=by simpa using h2
   have h3':tmps[3]?.getD undef=.int .i64 0:=by simpa using h3
   simp [results,Tryz.results11,h2',h3',go_sem,hc]
  ·have hl:C.bytes.length=k+4:=by rw [hk];simp [Cfg.bytes,Cfg.body,putB,four]
   unfold BytesOut
   rw [hl]
   have hb0:Below w.heap.size wr (wr.putObj D (.deferred none)):=⟨rfl,rfl,rfl,by simp [World.putObj],fun j hj=>World.putObj_heap_other (by omega)⟩
   exact ⟨A',c',rfl,(hp.below.trans hb0).trans (hbb.mono (by omega)),own_downR ho (by omega)⟩
theorem bput_yes (C:Cfg) (w:World) (hin:C.In w) (hf:C.few) (h:C.ok):BPUT C w (BytesOut C w):=by
 unfold BPUT
 have hmf:∀ (fn:Fn) (first cap:Array Value) (w:World),(Instr.makeFunc fn first cap).run Tryz.prog w=.ok (.func fn first cap) w:=fun _ _ _ _=>rfl
 have hE:C.E=0:=if_pos h
 have hb:=fun (W:World) (hB:Below w.heap.size w W)=>bcheck_any C W (hin.later hB) hf
 simp only [BCH,hE] at hb
 have HB:=hd_ hb
 have HH:=hd_ h
 have HI:=hd_ hin
 have f0:=hf.1
 have f1:=hf.2.2.1
 have f2:=hf.2.2.2
 have f3:=hf.2.1
 have hh:=h.1
 unfold okA at hh
 have mW:C.W%256=C.W:=by omega
 have mH:C.H%256=C.H:=by omega
 have mT:C.T%256=C.T:=by omega
 obtain ⟨R,hR⟩:∃ R,BytesOut C w=R:=⟨_,rfl⟩
 rw [hR]
 have HR:=hd_ hR
 have Q0:=(bn_ w (.cells #[.int .i64 C.W,.int .i64 C.H,.int .i64 C.T,.slice C.AT C.tiles.length C.cT,.slice C.AO C.on.length C.cO,.slice C.AI C.ins.length C.cI,.slice C.AU C.outs.length C.cU] 37)).alloc (by simp) (.cells #[.slice none 0 0] 44)
 have B0:=(Box7.new w C 37).below (bn_ _ (.cells #[.slice none 0 0] 44))
 have X0:=Boxed.new (w.alloc (.cells #[.int .i64 C.W,.int .i64 C.H,.int .i64 C.T,.slice C.AT C.tiles.length C.cT,.slice C.AO C.on.length C.cO,.slice C.AI C.ins.length C.cI,.slice C.AU C.outs.length C.cU] 37)) 44 (.slice none 0 0)
 rw [World.size_alloc] at X0
 have P0:=hd_ (PW.mk (C:=C) (k:=0) (L:=[]) Q0 B0 X0 (World.ownsRow_nil _ _ _ _))
 clear hR hb hE h hin hf Q0 B0 X0
 refine (callsIn_wide (n:=9)).1 (callsIn_of_wp_marks Tryz.func11 rfl trivial ?_ rfl)
 refine wpIn_wide.2 ?_
 simp only [Tryz.ntmps11,List.size_toArray,List.length_cons,List.length_nil,Nat.reduceAdd,Nat.reduceSub,Array.replicate_succ,Array.replicate_zero,List.push_toArray,List.append_toArray,List.nil_append,List.cons_append]
 go_wp2_with fail
 refine (HB.out _ P0.out.below).mono ?_
 rintro e w1 ⟨rfl,hb1⟩
 have P1:=hd_ (P0.out.keep hb1)
 clear hb1 HB P0
 obtain ⟨z,k0,k1,k2,k3,k4,k5,k6⟩:=P1.out.box
 have c1:=P1.out.cell.cell
 have e1:=P1.out.cell.frozen
 have s1:=P1.out.size
 have hcv:=Lib.run_convert_bytes_const (P:=Tryz.prog) w1 44 5 #[.int .u8 70,.int .u8 71,.int .u8 66,.int .u8 49] 4 4 Tryz.underlying44 Tryz.underlying5
 obtain ⟨i0,hi0,hz0,hz1,hz2⟩:=info_parts byte_info
 have HI0:=hd_ hi0
 have HZ0:=hd_ hz0
 have HZ1:=hd_ hz1
 have HZ2:=hd_ hz2
 clear hi0 hz0 hz1 hz2
 go_wp2_with (at_builtin;refine wpList_append_grows _ rfl (.tmp 21) (.tmp 34) 44 rfl 5 i0 (.int .u8 0) 1 1 Tryz.underlying44 HI0.out HZ0.out HZ1.out HZ2.out rfl (by decide) (some ⟨w1.heap.size,0,none⟩) 4 4 [.int .u8 70,.int .u8 71,.int .u8 66,.int .u8 49] rfl ?g1 rfl ?g2 ⟨w1.heap.size+1,0,none⟩ 3 3 [.int .u8 C.W,.int .u8 C.H,.int .u8 C.T] rfl rfl ?g3 ?g4 (by decide) (by decide) (by decide) ?_)
 case g1=>intro h;cases h
 case g2 =>
  intro b hb j u hj
  obtain rfl:=Option.some.inj hb
  rw [add_at]
  exact cell_second w1 _ _ _ _ j u (by simpa using hj)
 case g3 =>
  intro j u hj
  rw [add_at]
  rw [World.cell?_alloc_at _ _ _ _ (by simp)]
  simpa using hj
 case g4 =>
  intro u hu
  simp at hu
  rcases hu with rfl|rfl|rfl <;> rfl
 intro v2 w2 hown2 hg2
 obtain ⟨A2,c2,rfl⟩:=own_slice hown2
 have b2:Below (w.heap.size+2) w1 w2:=((((Below.refl _ w1).alloc s1 _).alloc (by simp;omega) _)).grown hg2 (by simp;omega) (fun _ h=>by cases h)
 have ho2:w2.ownsRow (w.heap.size+2) 5 1 (.slice A2 7 c2) 7 (bys (seven C)):=by
  rw [<- seven_cells HH.out.1]
  exact own_downR hown2 (by simp;omega)
 have P2:=P1.out.set b2 ho2
 have d2:=(b2.cell (p:=⟨w.heap.size+1,0,none⟩) (by simp)).trans c1
 have e2:=(b2.frozen (p:=⟨w.heap.size+1,0,none⟩) (by simp)).trans e1
 have P2:=hd_ P2
 clear hown2 hg2 b2 ho2 hcv z k0 k1 k2 k3 k4 k5 k6 c1 e1 P1 mW mH mT s1
 go_wp2_with fail
 generalize (w2.setCell ⟨w.heap.size+1,0,none⟩ (.slice A2 7 c2))=w3 at P2 ⊢
 clear d2 e2
 obtain ⟨z,k0,k1,k2,k3,k4,k5,k6⟩:=P2.out.box
 have c3:=P2.out.cell.cell
 have e3:=P2.out.cell.frozen
 have s3:=P2.out.size
 have hin0:(0:Int)<=(C.ins.length:Int)∧(C.ins.length:Int)<=65535:=by omega
 have hou0:(0:Int)<=(C.outs.length:Int)∧(C.outs.length:Int)<=65535:=by omega
 have HT1:=hd_ (fun (W:World) (ho:W.ownsRow (w.heap.size+2) 5 1 (.slice A2 7 c2) 7 (bys (seven C))) (hb:w.heap.size+2<=W.heap.size)=>btwo2 W _ _ _ _ _ ho hb _ hin0 (by omega))
 have HT2:=hd_ (fun (W:World) (A:Option Addr) (c:Nat) (ho:W.ownsRow (w.heap.size+2) 5 1 (.slice A 9 c) 9 (bys (seven C++two C.ins.length))) (hb:w.heap.size+2<=W.heap.size)=>btwo2 W _ _ _ _ _ ho hb _ hou0 (by omega))
 clear hin0 hou0
 refine wp_region_noPanic ?_
 refine wp_region_held_drew (S:=(fun w'=>w'.cell? ⟨w.heap.size,5,none⟩=some (.slice C.AI C.ins.length C.cI)∧w'.cell? ⟨w.heap.size,6,none⟩=some (.slice C.AU C.outs.length C.cU))) (by kernel_rfl) ?_ (fun hh=>?_)
 ·go_keep
 refine tk_ 1 (⟨some 37,.fieldAddr 37 (.tmp 1) 3,0,_,#[],none⟩) (v:=?_) ?_ ?_
 rotate_left
 ·intro w hSw;(try dsimp only at hSw);go_simp;(try with_reducible rfl)
 try simp only [Act.put,la_,lz_,ls_]
 refine tk_ 2 (⟨some 38,.load 25 (.tmp 37),25,_,#[⟨1,.data⟩],none⟩) (v:=?_) ?_ ?_
 rotate_left
 ·intro w hSw;(try dsimp only at hSw);go_simp;(try with_reducible rfl)
 try simp only [Act.put,la_,lz_,ls_]
 refine tk_ 3 (⟨some 39,.call { callee:=.builtin Builtin.len,args:=#[.tmp 38],argTypes:=#[25] },3,_,#[⟨2,.data⟩],none⟩) (v:=?_) ?_ ?_
 rotate_left
 ·intro w hSw;(try dsimp only at hSw);go_simp;(try with_reducible rfl)
 try simp only [Act.put,la_,lz_,ls_]
 refine tk_ 5 (⟨some 41,.fieldAddr 37 (.tmp 1) 4,0,_,#[],none⟩) (v:=?_) ?_ ?_
 rotate_left
 ·intro w hSw;(try dsimp only at hSw);go_simp;(try with_reducible rfl)
 try simp only [Act.put,la_,lz_,ls_]
 refine tk_ 6 (⟨some 42,.load 25 (.tmp 41),25,_,#[⟨5,.data⟩],none⟩) (v:=?_) ?_ ?_
 rotate_left
 ·intro w hSw;(try dsimp only at hSw);go_simp;(try with_reducible rfl)
 try simp only [Act.put,la_,lz_,ls_]
 refine tk_ 7 (⟨some 43,.call { callee:=.builtin Builtin.len,args:=#[.tmp 42],argTypes:=#[25] },3,_,#[⟨6,.data⟩],none⟩) (v:=?_) ?_ ?_
 rotate_left
 ·intro w hSw;(try dsimp only at hSw);go_simp;(try with_reducible rfl)
 try simp only [Act.put,la_,lz_,ls_]
 refine rd_ [0] ?_
 refine AllReadyH.cons (o:=⟨some 36,.load 44 (.tmp 2),44,_,#[],none⟩) rfl (fun K hK=>?_) AllReadyH.nil
 go_simp
 refine hK.out _ _ ?_ (fun hh=>?_)
 ·go_keep
 clear hK K
 try simp only [Act.put,la_,lz_,ls_]
 refine rd_ [4] ?_
 refine AllReadyH.cons (o:=⟨some 40,.call { callee:=.value (.func 33),args:=#[.tmp 36,.tmp 39],argTypes:=#[44,3] },44,_,#[⟨0,.data⟩,⟨3,.data⟩],none⟩) rfl (fun K hK=>?_) AllReadyH.nil
 go_simp
 with_reducible refine (HT1.out _ ?_ ?_).mono ?_
 ·exact own_drewN P2.out.row 1
 ·exact s3
 rintro e w4 ⟨A4,n4,rfl,hb4,ho4⟩
 have hb4:Below (w.heap.size+2) w3 w4:=⟨hb4.os,hb4.tape,hb4.output,hb4.size,hb4.block⟩
 have k7:=(hb4.cell (p:=⟨w.heap.size,6,none⟩) (by simp)).trans k6
 have k8:=(hb4.cell (p:=⟨w.heap.size,5,none⟩) (by simp)).trans k5
 have c4:=(hb4.cell (p:=⟨w.heap.size+1,0,none⟩) (by simp)).trans c3
 have e4:=(hb4.frozen (p:=⟨w.heap.size+1,0,none⟩) (by simp)).trans e3
 have HB4:=hd_ hb4
 have HO4:=hd_ ho4
 clear hb4 ho4 hh
 refine hK.out _ _ ?_ (fun hh=>?_)
 ·go_keep
 clear hK K
 try simp only [Act.put,la_,lz_,ls_]
 refine rd_ [8] ?_
 refine AllReadyH.cons (o:=⟨some 44,.call { callee:=.value (.func 33),args:=#[.tmp 40,.tmp 43],argTypes:=#[44,3] },44,_,#[⟨4,.data⟩,⟨7,.data⟩,⟨4,.chain⟩],none⟩) rfl (fun K hK=>?_) AllReadyH.nil
 go_simp
 with_reducible refine (HT2.out _ _ _ ?_ ?_).mono ?_
 ·exact HO4.out
 ·have:=HB4.out.size;omega
 rintro e w5 ⟨A5,n5,rfl,hb5,ho5⟩
 have k9:=(hb5.cell (p:=⟨w.heap.size,6,none⟩) (by simp)).trans k7
 have k10:=(hb5.cell (p:=⟨w.heap.size,5,none⟩) (by simp)).trans k8
 have c5:=(hb5.cell (p:=⟨w.heap.size+1,0,none⟩) (by simp)).trans c4
 have e5:=(hb5.frozen (p:=⟨w.heap.size+1,0,none⟩) (by simp)).trans e4
 have HB5:=hd_ hb5
 have HO5:=hd_ ho5
 clear hb5 ho5 hh
 refine hK.out _ _ ?_ (fun hh=>?_)
 ·go_keep
 clear hK K
 try simp only [Act.put,la_,lz_,ls_]
 refine rd_ [9] ?_
 refine AllReadyH.cons (o:=⟨none,.store 44 (.tmp 2) (.tmp 44),0,_,#[⟨8,.data⟩,⟨8,.chain⟩,⟨0,.phase⟩,⟨1,.phase⟩,⟨2,.phase⟩,⟨3,.phase⟩,⟨4,.phase⟩,⟨5,.phase⟩,⟨6,.phase⟩,⟨7,.phase⟩,⟨8,.phase⟩],none⟩) rfl (fun K hK=>?_) AllReadyH.nil
 go_simp
 refine hK.out _ _ ?_ (fun hh=>?_)
 ·go_keep
 clear hK K
 try simp only [Act.put,la_,lz_,ls_]
 refine wpAnyH_done (by kernel_rfl) ?_ _
 refine NoPanic.normal ?_
 have P5:=P2.out.set (HB4.out.trans HB5.out) HO5.out
 obtain ⟨hd,hhd⟩:∃ hd,headB C.W C.H C.T C.ins.length C.outs.length=hd:=⟨_,rfl⟩
 have HHD:=hd_ hhd
 have P5:PW w (w5.setCell ⟨w.heap.size+1,0,none⟩ (.slice A5 11 n5)) C A5 11 n5 hd:=by rw [<- hhd];exact P5
 have P5:=hd_ P5
 clear hhd HB4 HB5 HO4 HO5 HT1 HT2 P2 hh c3 c4 c5 e3 e4 e5 k7 k8 k9 k10 z k0 k1 k2 k3 k4 k5 k6 s3
 obtain ⟨z,k0,k1,k2,k3,k4,k5,k6⟩:=P5.out.box
 obtain ⟨n,hn⟩:∃ n,C.tiles.length=n:=⟨_,rfl⟩
 have HN:=hd_ hn
 go_wp2_with fail
 generalize (w5.setCell ⟨w.heap.size+1,0,none⟩ (.slice A5 11 n5))=w6 at P5 z k0 k1 k2 k3 k4 k5 k6 ⊢
 go_loopw [48] (fun i wx=>∃ (k:Nat) (A':Option Addr) (c':Nat),k<=n∧i=.int .i64 (k:Int)∧PW w wx C A' (11+3*k) c' (hd++tilesToR C.tiles k)) (fun i _=>n-(intOf i).toNat)
 case atStart=>exact ⟨0,A5,n5,by omega,by simp,by simpa [tilesToR] using P5.out⟩
 case round =>
  clear P5 z k0 k1 k2 k3 k4 k5 k6
  obtain ⟨k,A7,c7,hk,rfl,hp⟩:=hrel
  have P7:=hd_ hp
  clear hp
  obtain ⟨L,hL0⟩:∃ L,hd++tilesToR C.tiles k=L:=⟨_,rfl⟩
  have HL0:=hd_ hL0
  obtain ⟨lk,hlk⟩:∃ lk,11+3*k=lk:=⟨_,rfl⟩
  have HLK:=hd_ hlk
  rw [hL0,hlk] at P7
  have hl4:lk<=4000:=by omega
  clear hL0 hlk
  by_cases hlt:k<n
  ·have hkl:k<C.tiles.length:=by rw [hn];exact hlt
   obtain ⟨a,ha,hab,t0,t1,t2⟩:=(HI.out.tiles.later P7.out.below).tile (k:=k) hkl
   have htl:=ok_tile HH.out hkl
   have hnx:=tilesTo_next hkl
   have HNX:=hd_ hnx
   have HAA:=hd_ ha
   rw [ha,hn]
   clear hnx ha
   generalize C.tiles[k]! = t at t0 t1 t2 htl HNX
   obtain ⟨tb,ff,ini⟩:=t
   simp only at t0 t1 t2 htl
   have P8:=hd_ (P7.out.keep (bn_ wr (.cells #[.int .i64 tb,.bool ff,.bool ini] 65)))
   have c8:=P8.out.cell.cell
   have e8:=P8.out.cell.frozen
   have s8:=P8.out.size
   have HT:=hd_ (fun (W:World) (ho:W.ownsRow (w.heap.size+2) 5 1 (.slice A7 lk c7) lk (bys L)) (hb:w.heap.size+2<=W.heap.size)=>btwo2 W _ _ _ _ _ ho hb tb htl (by omega))
   cases ff
   ·cases ini
    ·go_wp2_with fail
     refine (HT.out _ P8.out.row s8).mono ?_
     rintro e w9 ⟨A9,c9,rfl,hb9,ho9⟩
     have c10:=(hb9.cell (p:=⟨w.heap.size+1,0,none⟩) (by simp)).trans c8
     have e10:=(hb9.frozen (p:=⟨w.heap.size+1,0,none⟩) (by simp)).trans e8
     have HB9:=hd_ hb9
     have HO9:=hd_ ho9
     have s9:w.heap.size+2<=w9.heap.size:=by have:=hb9.size;omega
     have hrd:=hd_ (rd_bys1 w9 5 (flag (tb,false,false)) 0 (by first|rfl|decide))
     clear hb9 ho9 c8 e8 t0 t1 t2
     go_wp2_with (at_builtin;refine wpList_app_bys rfl (.tmp 63) (.tmp 65) rfl (w.heap.size+2) A9 (lk+2) c9 (L++two tb.toNat) rfl (HO9.out.alloc _) (some ⟨w9.heap.size,0,none⟩) 1 1 [(flag (tb,false,false))] rfl hrd.out (by omega) (by simp;omega) ?_)
     intro A11 c11 w11 hown11 hg11
     have b11:Below (w.heap.size+2) w9 w11:=((bn_ w9 _).mono s9).grown hg11 (by simp;omega) (fun j hj=>own_base HO9.out hj)
     have c12:=(b11.cell (p:=⟨w.heap.size+1,0,none⟩) (by simp)).trans c10
     have e12:=(b11.frozen (p:=⟨w.heap.size+1,0,none⟩) (by simp)).trans e10
     have P11:=hd_ (P8.out.set (HB9.out.trans b11) hown11)
     clear hown11 hg11 b11 hrd c10 e10
     go_wp2_with fail
     go_roundw
     case rel =>
      refine ⟨k+1,A11,c11,by omega,by go_num,?_⟩
      have e3:11+3*(k+1)=lk+2+1:=by have:=HLK.out;omega
      rw [e3,HNX.out,<- List.append_assoc,<- List.append_assoc,HL0.out]
      have:=P11.out
      simp only [List.append_assoc] at this ⊢
      exact this
     case measure=>simp [intOf];omega
    ·go_wp2_with fail
     refine (HT.out _ P8.out.row s8).mono ?_
     rintro e w9 ⟨A9,c9,rfl,hb9,ho9⟩
     have c10:=(hb9.cell (p:=⟨w.heap.size+1,0,none⟩) (by simp)).trans c8
     have e10:=(hb9.frozen (p:=⟨w.heap.size+1,0,none⟩) (by simp)).trans e8
     have HB9:=hd_ hb9
     have HO9:=hd_ ho9
     have s9:w.heap.size+2<=w9.heap.size:=by have:=hb9.size;omega
     have hrd:=hd_ (rd_bys1 w9 5 (flag (tb,false,true)) (bits .or .u8 0 2) (by first|rfl|decide))
     clear hb9 ho9 c8 e8 t0 t1 t2
     go_wp2_with (at_builtin;refine wpList_app_bys rfl (.tmp 63) (.tmp 65) rfl (w.heap.size+2) A9 (lk+2) c9 (L++two tb.toNat) rfl (HO9.out.alloc _) (some ⟨w9.heap.size,0,none⟩) 1 1 [(flag (tb,false,true))] rfl hrd.out (by omega) (by simp;omega) ?_)
     intro A11 c11 w11 hown11 hg11
     have b11:Below (w.heap.size+2) w9 w11:=((bn_ w9 _).mono s9).grown hg11 (by simp;omega) (fun j hj=>own_base HO9.out hj)
     have c12:=(b11.cell (p:=⟨w.heap.size+1,0,none⟩) (by simp)).trans c10
     have e12:=(b11.frozen (p:=⟨w.heap.size+1,0,none⟩) (by simp)).trans e10
     have P11:=hd_ (P8.out.set (HB9.out.trans b11) hown11)
     clear hown11 hg11 b11 hrd c10 e10
     go_wp2_with fail
     go_roundw
     case rel =>
      refine ⟨k+1,A11,c11,by omega,by go_num,?_⟩
      have e3:11+3*(k+1)=lk+2+1:=by have:=HLK.out;omega
      rw [e3,HNX.out,<- List.append_assoc,<- List.append_assoc,HL0.out]
      have:=P11.out
      simp only [List.append_assoc] at this ⊢
      exact this
     case measure=>simp [intOf];omega
   ·cases ini
    ·go_wp2_with fail
     refine (HT.out _ P8.out.row s8).mono ?_
     rintro e w9 ⟨A9,c9,rfl,hb9,ho9⟩
     have c10:=(hb9.cell (p:=⟨w.heap.size+1,0,none⟩) (by simp)).trans c8
     have e10:=(hb9.frozen (p:=⟨w.heap.size+1,0,none⟩) (by simp)).trans e8
     have HB9:=hd_ hb9
     have HO9:=hd_ ho9
     have s9:w.heap.size+2<=w9.heap.size:=by have:=hb9.size;omega
     have hrd:=hd_ (rd_bys1 w9 5 (flag (tb,true,false)) (bits .or .u8 0 1) (by first|rfl|decide))
     clear hb9 ho9 c8 e8 t0 t1 t2
     go_wp2_with (at_builtin;refine wpList_app_bys rfl (.tmp 63) (.tmp 65) rfl (w.heap.size+2) A9 (lk+2) c9 (L++two tb.toNat) rfl (HO9.out.alloc _) (some ⟨w9.heap.size,0,none⟩) 1 1 [(flag (tb,true,false))] rfl hrd.out (by omega) (by simp;omega) ?_)
     intro A11 c11 w11 hown11 hg11
     have b11:Below (w.heap.size+2) w9 w11:=((bn_ w9 _).mono s9).grown hg11 (by simp;omega) (fun j hj=>own_base HO9.out hj)
     have c12:=(b11.cell (p:=⟨w.heap.size+1,0,none⟩) (by simp)).trans c10
     have e12:=(b11.frozen (p:=⟨w.heap.size+1,0,none⟩) (by simp)).trans e10
     have P11:=hd_ (P8.out.set (HB9.out.trans b11) hown11)
     clear hown11 hg11 b11 hrd c10 e10
     go_wp2_with fail
     go_roundw
     case rel =>
      refine ⟨k+1,A11,c11,by omega,by go_num,?_⟩
      have e3:11+3*(k+1)=lk+2+1:=by have:=HLK.out;omega
      rw [e3,HNX.out,<- List.append_assoc,<- List.append_assoc,HL0.out]
      have:=P11.out
      simp only [List.append_assoc] at this ⊢
      exact this
     case measure=>simp [intOf];omega
    ·go_wp2_with fail
     refine (HT.out _ P8.out.row s8).mono ?_
     rintro e w9 ⟨A9,c9,rfl,hb9,ho9⟩
     have c10:=(hb9.cell (p:=⟨w.heap.size+1,0,none⟩) (by simp)).trans c8
     have e10:=(hb9.frozen (p:=⟨w.heap.size+1,0,none⟩) (by simp)).trans e8
     have HB9:=hd_ hb9
     have HO9:=hd_ ho9
     have s9:w.heap.size+2<=w9.heap.size:=by have:=hb9.size;omega
     have hrd:=hd_ (rd_bys1 w9 5 (flag (tb,true,true)) (bits .or .u8 (bits .or .u8 0 1) 2) (by first|rfl|decide))
     clear hb9 ho9 c8 e8 t0 t1 t2
     go_wp2_with (at_builtin;refine wpList_app_bys rfl (.tmp 63) (.tmp 65) rfl (w.heap.size+2) A9 (lk+2) c9 (L++two tb.toNat) rfl (HO9.out.alloc _) (some ⟨w9.heap.size,0,none⟩) 1 1 [(flag (tb,true,true))] rfl hrd.out (by omega) (by simp;omega) ?_)
     intro A11 c11 w11 hown11 hg11
     have b11:Below (w.heap.size+2) w9 w11:=((bn_ w9 _).mono s9).grown hg11 (by simp;omega) (fun j hj=>own_base HO9.out hj)
     have c12:=(b11.cell (p:=⟨w.heap.size+1,0,none⟩) (by simp)).trans c10
     have e12:=(b11.frozen (p:=⟨w.heap.size+1,0,none⟩) (by simp)).trans e10
     have P11:=hd_ (P8.out.set (HB9.out.trans b11) hown11)
     clear hown11 hg11 b11 hrd c10 e10
     go_wp2_with fail
     go_roundw
     case rel =>
      refine ⟨k+1,A11,c11,by omega,by go_num,?_⟩
      have e3:11+3*(k+1)=lk+2+1:=by have:=HLK.out;omega
      rw [e3,HNX.out,<- List.append_assoc,<- List.append_assoc,HL0.out]
      have:=P11.out
      simp only [List.append_assoc] at this ⊢
      exact this
     case measure=>simp [intOf];omega
  ·obtain rfl:k=n:=by omega
   have hful:hd++tilesToR C.tiles k=hd++C.tiles.flatMap tileB:=by unfold tilesToR;rw [List.take_of_length_le (by rw [hn];exact Nat.le_refl _)]
   have HFU:=hd_ (hful.symm.trans HL0.out)
   clear hful hn
   have Z1:=Boxed.new wr 35 (.slice C.AO C.on.length C.cO)
   have Z2:=Boxed.new (wr.alloc (.cells #[.slice C.AO C.on.length C.cO] 35)) 3 (.int .i64 8)
   rw [World.size_alloc] at Z2
   have P8:=(P7.out.keep (bn_ wr (.cells #[.slice C.AO C.on.length C.cO] 35))).keep (bn_ _ (.cells #[.int .i64 8] 3))
   have Z1:=boxed_below Z1 (bn_ _ (.cells #[.int .i64 8] 3))
   have hz:=P7.out.size
   have hon:=HI.out.on.cap
   have hsk:=chunk1 8 (by omega) wr.heap.size (wr.heap.size+1) C.AO C.on.length C.cO HI.out.on.nil hon (by omega) ((wr.alloc (.cells #[.slice C.AO C.on.length C.cO] 35)).alloc (.cells #[.int .i64 8] 3)) Z1 Z2
   obtain ⟨w8,hw8⟩:∃ w8,(wr.alloc (.cells #[.slice C.AO C.on.length C.cO] 35)).alloc (.cells #[.int .i64 8] 3)=w8:=⟨_,rfl⟩
   have hs8:w8.heap.size=wr.heap.size+2:=by rw [<- hw8];simp
   rw [hw8] at hsk P8 Z1 Z2
   have HSK:=hd_ hsk
   have HW8:=hd_ hw8
   clear hsk
   obtain ⟨z,k0,k1,k2,k3,k4,k5,k6⟩:=P7.out.box
   go_wp2_with fail
   refine (chunk_any _ _ _ _).mono ?_
   rintro e w9 ⟨rfl,rfl⟩
   rw [hw8]
   clear P7 z k0 k1 k2 k3 k4 k5 k6
   have P8:=hd_ P8
   have Z1:=hd_ Z1
   have Z2:=hd_ Z2
   generalize hwr:wr.heap.size=r0 at HSK Z1 Z2 hs8 ⊢
   have hr0:w.heap.size+2<=r0:=by omega
   clear hwr
   go_wp2_with fail
   refine range_one (n:=9) (by omega) (gf:=90) (lb:=#[.pointer (some ⟨r0,0,none⟩),.pointer (some ⟨r0+1,0,none⟩)]) rfl (enters_of Tryz.func90 (by kernel_rfl) rfl) (enc:=chV C.AO C.on.length) HSK.out K2.trans (K2.put (by omega) (by omega))
    (fun pre W=>∃ A' c',PW w W C A' (lk+pre.length) c' (L++pre.map (chB C.on))∧Boxed W r0 35 (.slice C.AO C.on.length C.cO)∧Boxed W (r0+1) 3 (.int .i64 8)) ?own ?start 8 ?assign ?body ?done
   case own =>
    rintro pre X Y row ⟨A',c',hp,x1,x2⟩ hg hr
    exact ⟨A',c',hp.own hg hr (by omega),boxed_own x1 hg (fun r e=>(hr r e).2),boxed_own x2 hg (fun r e=>(hr r e).2)⟩
   case start=>exact ⟨A7,c7,by simpa using P8.out,Z1.out,Z2.out⟩
   case assign =>
    intro l x W K hK
    simp only [List.setIfInBounds_toArray,List.set_cons_zero,List.set_cons_succ] at hK ⊢
    gi_wp2
    exact hK
   case body =>
    rintro l pre x W ⟨A',c',hp,x1,x2⟩ hl
    obtain ⟨m,hm⟩:∃ m,chL C.on.length x=m:=⟨_,rfl⟩
    have hm8:m<=8∧∀ j,j<m->8*x+j<C.on.length:=by rw [<- hm];unfold chL;exact ⟨by omega,fun j hj=>by omega⟩
    obtain ⟨A8,hA8⟩:∃ A8,(C.AO.map fun a=>a.add (8*x))=A8:=⟨_,rfl⟩
    have hch:chV C.AO C.on.length x=.slice A8 m m:=by unfold chV;rw [hm,hA8]
    have hrd:∀ j,j<m->∃ a8,A8=some a8∧W.cell? (a8.add j)=some (.bool (C.on.getD (8*x+j) false)):=by
     intro j hj
     obtain ⟨a0,ha0,-,hc0⟩:=(HI.out.on.later hp.below).bool (hm8.2 j hj)
     refine ⟨a0.add (8*x),by rw [<- hA8,ha0];rfl,by rw [add_add];exact hc0⟩
    have hfin:m=8∨8*x+m=C.on.length∧m<=8∨m=0∧C.on.length<=8*x:=by rw [<- hm];unfold chL;omega
    have HRD:=hd_ hrd
    have HM8:=hd_ hm8.2
    have hm1:=hm8.1
    have HFIN:=hd_ hfin
    rw [hch]
    clear hch hA8 hm hm8 hrd hfin
    simp only [List.setIfInBounds_toArray,List.set_cons_zero,List.set_cons_succ]
    have PB:=hd_ hp
    have X1:=hd_ x1
    have X2:=hd_ x2
    clear hp x1 x2
    gi_wp2_with fail
    gi_loop [9,74] (fun s i=>∃ j:Nat,j<=m∧i=.int .i64 (j:Int)∧s=.int .u8 (bitsTo C.on x j:Int)) (fun _ i=>m-(intOf i).toNat)
    case atStart=>exact ⟨0,by omega,rfl,by simp [bitsTo,byteB]⟩
    case round =>
     obtain ⟨j,hj,rfl,rfl⟩:=hrel
     by_cases hjm:j<m
     ·obtain ⟨a8,rfl,d0⟩:=HRD.out j hjm
      have hbn:=bitsTo_next (HM8.out j hjm)
      have hbl:=bitsTo_lt C.on x j
      have hor:=or_bit (bitsTo C.on x j) j hbl (by omega)
      have hpw:(2:Int) ^ j%256=((2 ^ j:Nat):Int):=by
       have h7:2 ^ j<=2 ^ 7:=Nat.pow_le_pow_right (by omega) (by omega)
       have:((2:Int) ^ j)=((2 ^ j:Nat):Int):=by rw [Int.natCast_pow];rfl
       rw [this];omega
      have HBN:=hd_ hbn
      have HOR:=hd_ hor
      have HPW:=hd_ hpw
      clear hbn hor hpw
      generalize bitsTo C.on x j=s at HBN HOR hbl
      cases hbv:C.on.getD (8*x+j) false with
      | true =>
       rw [hbv] at d0 HBN
       clear hbv
       gi_wp2_with fail
       go_round
       case rel=>exact ⟨j+1,by omega,by go_num,by rw [HBN.out,HPW.out,HOR.out];rfl⟩
       case measure=>simp [intOf];omega
      | false =>
       rw [hbv] at d0 HBN
       clear hbv
       gi_wp2_with fail
       go_round
       case rel=>exact ⟨j+1,by omega,by go_num,by rw [HBN.out];rfl⟩
       case measure=>simp [intOf];omega
     ·obtain rfl:j=m:=by omega
      have hcb:bitsTo C.on x j=chB C.on x:=by
       rcases HFIN.out with h8|h8|h8
       ·exact bitsTo_full (.inl h8)
       ·exact bitsTo_full (.inr h8)
       ·obtain ⟨rfl,h9⟩:=h8
        unfold bitsTo chB
        rw [List.drop_eq_nil_of_le h9];rfl
      rw [hcb]
      clear hcb
      have c20:=PB.out.cell.cell
      have e20:=PB.out.cell.frozen
      have s20:=PB.out.size
      gi_wp2_with (gi_at_builtin;refine wpListIn_app_byte rfl (.tmp 85) (.tmp 87) rfl (w.heap.size+2) A' (lk+pre.length) c' (L++pre.map (chB C.on)) rfl PB.out.row (chB C.on x) _ rfl rfl (by omega) s20 ?_)
      intro A21 c21 w21 hown21 hg21
      have ap:=Boxed.appended (n₀:=w.heap.size+1) PB.out.cell (by decide) (own_downR PB.out.row (by omega)) (by omega) (Nat.le_refl _) (own_downR hown21 (by omega)) hg21
      have b21:Below (w.heap.size+2) W w21:=((Below.refl _ W).alloc s20 _).grown hg21 (by simp;omega) (fun j hj=>own_base PB.out.row hj)
      have c22:=(b21.cell (p:=⟨w.heap.size+1,0,none⟩) (by simp)).trans c20
      have e22:=(b21.frozen (p:=⟨w.heap.size+1,0,none⟩) (by simp)).trans e20
      have P21:=hd_ (PB.out.set b21 hown21)
      have x1':Boxed w21 r0 35 (.slice C.AO C.on.length C.cO):=(X1.out.alloc _).kept hg21 (X1.out.not_row (by decide) PB.out.row)
      have x2':Boxed w21 (r0+1) 3 (.int .i64 8):=(X2.out.alloc _).kept hg21 (X2.out.not_row (by decide) PB.out.row)
      have Y1:=hd_ (x1'.kept (grownBy_setCell' w21 (w.heap.size+1) (.slice A21 (lk+pre.length+1) c21)) (by simp;omega))
      have Y2:=hd_ (x2'.kept (grownBy_setCell' w21 (w.heap.size+1) (.slice A21 (lk+pre.length+1) c21)) (by simp;omega))
      have KO:=hd_ ap.2.2.2.1
      clear ap b21 x1' x2' hown21 hg21 c20 e20
      gi_wp2_with fail
      refine ⟨KO.out.from _,⟨Y1.out.trans (Eq.symm X1.out),Y2.out.trans (Eq.symm X2.out)⟩,A21,c21,?_,Y1.out,Y2.out⟩
      have:=P21.out
      rw [<- List.append_assoc] at this
      rw [List.length_append,List.length_singleton,List.map_append,List.map_cons,List.map_nil,<- Nat.add_assoc,<- List.append_assoc]
      exact this
   case done =>
    rintro D xs W hD hS ⟨A',c',hp,x1,x2⟩ hK
    subst hS
    rw [List.length_range] at hp
    have hpk:(List.range ((C.on.length+7)/8)).map (chB C.on)=packB C.on:=rfl
    rw [hpk] at hp
    have HD:=hd_ hK
    obtain ⟨L2,hL2⟩:∃ L2,L++packB C.on=L2:=⟨_,rfl⟩
    have HL2:=hd_ hL2
    obtain ⟨lp,hlp⟩:∃ lp,lk+(C.on.length+7)/8=lp:=⟨_,rfl⟩
    have HLP:=hd_ hlp
    have hlp2:lp<=12000:=by omega
    rw [hL2,hlp] at hp
    have PD:=hd_ hp
    clear hL2 hlp hpk hp x1 x2 hK
    obtain ⟨z,k0,k1,k2,k3,k4,k5,k6⟩:=PD.out.box
    go_wp2_with fail
    refine (concat_any _ _ _ 2 [(C.AI,C.cI,C.ins),(C.AU,C.cU,C.outs)] rfl ?h1 ?h2 (by omega) ?h3).mono ?_
    case h1 =>
     refine ⟨rfl,Nat.le_refl _,(fun hx=>by cases hx),?_⟩
     intro j u hj
     refine ⟨_,rfl,by simp,?_⟩
     rcases j with _|_|j
     ·simp [slv] at hj;subst hj;go_simp
     ·simp [slv] at hj;subst hj;go_simp
     ·simp [slv] at hj
    case h2 =>
     intro l hl
     have hin4:C.In (W.alloc (.cells #[.slice C.AI C.ins.length C.cI,.slice C.AU C.outs.length C.cU] 25)):=HI.out.later (bt_ PD.out.below (bn_ _ _))
     simp only [List.mem_cons,List.not_mem_nil,or_false] at hl
     rcases hl with rfl|rfl
     ·exact hin4.ins
     ·exact hin4.outs
    case h3 =>
     have:cat [(C.AI,C.cI,C.ins),(C.AU,C.cU,C.outs)]=C.ins++C.outs:=by simp [cat]
     rw [this,List.length_append];omega
    rintro e w30 ⟨A30,c30,rfl,hb30,hown30⟩
    obtain ⟨PL,hPL⟩:∃ PL,C.ins++C.outs=PL:=⟨_,rfl⟩
    rw [show cat [(C.AI,C.cI,C.ins),(C.AU,C.cU,C.outs)]=PL by rw [<- hPL];simp [cat]] at hown30 ⊢
    have HPL:=hd_ hPL
    have P30:=hd_ ((PD.out.keep (bn_ W _)).keep hb30)
    have hD30:w30.heap[D]? = some (.deferred (some [])):=by
     have hlt:D<W.heap.size:=(Array.getElem?_eq_some_iff.1 HD.out).1
     rw [hb30.block D (by simp;omega),Below.heap_alloc _ _ _ hlt]
     exact HD.out
    have HD30:=hd_ hD30
    have hnp:PL.length<=10000:=by rw [<- hPL,List.length_append];omega
    have hb30s:w.heap.size+2<=(W.alloc (.cells #[.slice C.AI C.ins.length C.cI,.slice C.AU C.outs.length C.cU] 25)).heap.size:=by have:=PD.out.size;simp;omega
    obtain ⟨B30,hB30⟩:∃ B30,(W.alloc (.cells #[.slice C.AI C.ins.length C.cI,.slice C.AU C.outs.length C.cU] 25)).heap.size=B30:=⟨_,rfl⟩
    rw [hB30] at hown30 hb30s
    have O30:=hd_ hown30
    clear hb30 hown30 z k0 k1 k2 k3 k4 k5 k6 hPL hD30 hB30
    go_wp2_with fail
    go_loopw [96] (fun i wx=>∃ (q:Nat) (A':Option Addr) (c':Nat),q<=PL.length∧i=.int .i64 (q:Int)∧PW w wx C A' (lp+2*q) c' (L2++padsTo PL q)∧wx.ownsRow B30 3 1 (.slice A30 PL.length c30) PL.length (ints PL)∧wx.heap[D]? = some (.deferred (some []))) (fun i _=>PL.length-(intOf i).toNat)
    case atStart=>exact ⟨0,A',c',by omega,rfl,by simpa [padsTo] using P30.out,O30.out,HD30.out⟩
    case round =>
     clear PD P30 O30 HD30 HD
     obtain ⟨q,A31,c31,hq,rfl,hp,ho,hd⟩:=hrel
     have PQ:=hd_ hp
     have OQ:=hd_ ho
     have DQ:=hd_ hd
     clear hp ho hd
     by_cases hlt:q<PL.length
     ·obtain ⟨g30,hA30,c30'⟩:=own_cell OQ.out hlt
      have hpd:=ok_pad HH.out (k:=q) (by rw [HPL.out];exact hlt)
      rw [HPL.out] at hpd
      have HNX:=hd_ (padsTo_next hlt)
      have HA:=hd_ hA30
      obtain ⟨lq,hlq⟩:∃ lq,lp+2*q=lq:=⟨_,rfl⟩
      have HLQ:=hd_ hlq
      obtain ⟨L3,hL3⟩:∃ L3,L2++padsTo PL q=L3:=⟨_,rfl⟩
      have HL3:=hd_ hL3
      have hlq2:lq<=40000:=by omega
      rw [hlq,hL3] at PQ
      rw [hA30]
      clear hA30 hlq hL3
      generalize PL.getD q 0=pd at c30' hpd HNX
      have cq:=PQ.out.cell.cell
      have eq:=PQ.out.cell.frozen
      have sq:=PQ.out.size
      have HT:=hd_ (btwo_grown wr (w.heap.size+2) A31 lq c31 L3 PQ.out.row sq pd hpd (by omega))
      go_wp2_with fail
      refine HT.out.mono ?_
      rintro e w32 ⟨A32,c32,rfl,hg32,ho32⟩
      have b32:Below (w.heap.size+2) wr w32:=(Below.refl _ wr).grown hg32 sq (fun j hj=>own_base PQ.out.row hj)
      have c33:=(b32.cell (p:=⟨w.heap.size+1,0,none⟩) (by simp)).trans cq
      have e33:=(b32.frozen (p:=⟨w.heap.size+1,0,none⟩) (by simp)).trans eq
      have P33:=hd_ (PQ.out.set b32 ho32)
      have o33:=own_grown OQ.out PQ.out.row (by decide) hg32
      have O33:=hd_ (o33.kept (grownBy_setCell' w32 (w.heap.size+1) (.slice A32 (lq+2) c32)) (.inr fun e=>by have:=own_base o33 e;omega))
      have hDl:D<wr.heap.size:=(Array.getElem?_eq_some_iff.1 DQ.out).1
      have d33:=(hg32.block D hDl (own_ne_obj PQ.out.row DQ.out rfl)).trans DQ.out
      have hDb:D≠w.heap.size+1:=fun e=>by
       have h1:=PQ.out.cell
       have h2:=DQ.out
       rw [e] at h2
       have h3:wr.heap[w.heap.size+1]? = some (.cells #[.slice A31 lq c31] 44 (0,0)):=h1
       rw [h3] at h2;cases h2
      have D33:=hd_ ((Below.heap_setCell w32 ⟨w.heap.size+1,0,none⟩ (.slice A32 (lq+2) c32) D hDb).trans d33)
      clear hg32 ho32 b32 o33 d33 hDb hDl HT cq eq
      go_wp2_with fail
      go_roundw
      case rel =>
       refine ⟨q+1,A32,c32,by omega,by go_num,?_,by have h:=O33.out;rw [HA.out] at h;exact h,D33.out⟩
       have e3:lp+2*(q+1)=lq+2:=by have:=HLQ.out;omega
       rw [e3,HNX.out,<- List.append_assoc,HL3.out]
       exact P33.out
      case measure=>simp [intOf];omega
     ·obtain rfl:q=PL.length:=by omega
      have cq:=PQ.out.cell.cell
      have eq:=PQ.out.cell.frozen
      have sq:=PQ.out.size
      have hful:L2++padsTo PL PL.length=C.body:=by
       rw [<- HPL.out,<- HL2.out,<- HFU.out,<- HHD.out]
       unfold padsTo Cfg.body bodyB
       rw [List.take_length]
      have hkb:lp+2*PL.length=C.body.length:=by
       rw [<- hful,List.length_append,padsTo_len (Nat.le_refl _),<- HL2.out,List.length_append,packB_len,<- HFU.out,List.length_append,<- HHD.out,headB_len,flat_len tileB_len,HN.out]
       have:=HLP.out
       have:=HLK.out
       omega
      rw [hful] at PQ
      have hlt256:∀ x ∈ C.body,x<256:=fun x hx=>putB_lt (W:=C.W) (H:=C.H) (T:=C.T) ⟨by omega,by omega,by omega⟩ C.tiles C.on C.ins C.outs x (by unfold putB;exact List.mem_append_left _ hx)
      have hbl:C.body.length<=100000:=by omega
      have HKB:=hd_ hkb
      clear hful hkb
      go_wp2_with fail
      rw [<- HR.out]
      exact put_exit C w _ D _ _ A31 _ ⟨hlt256,hbl⟩ (PQ.out.set br_ PQ.out.row) HKB.out ((Below.heap_setCell wr ⟨w.heap.size+1,0,none⟩ (.slice A31 (lp+2*PL.length) c31) D (fun e=>by
       have h1:wr.heap[w.heap.size+1]? = some (.cells #[.slice A31 (lp+2*PL.length) c31] 44 (0,0)):=PQ.out.cell
       have h2:=DQ.out
       rw [e,h1] at h2;cases h2)).trans DQ.out) (by omega) rfl rfl
end Go.Proofs.YtmkiphadkmodnaaGreat
