/- BfM, 22 -/
import Derived.Laws.BytesArg
import Derived.Lib.Strings
import Derived.Test.YtmkiphadkmodnaaGreatZBfM9
import Derived.Test.YtmkiphadkmodnaaGreatZBfM21
import Derived.Test.YtmkiphadkmodnaaGreatZBfM0
import Derived.Laws.Rows
set_option linter.all false
set_option maxRecDepth 100000
set_option maxHeartbeats 8000000
namespace Go.Proofs.YtmkiphadkmodnaaGreat
open Go.RowKit Go.Shelf
def strB (l:List Nat):ByteArray:=⟨(l.map UInt8.ofNat).toArray⟩
theorem strB_size (l:List Nat):(strB l).size=l.length:=by simp [strB,ByteArray.size]
theorem strB_inj {l m:List Nat} (hl:∀ x ∈ l,x<256) (hm:∀ x ∈ m,x<256) (h:strB l=strB m):l=m:=by
 have h1:(strB l).data.toList=(strB m).data.toList:=by rw [h]
 simp only [strB] at h1
 have h2:=congrArg (List.map UInt8.toNat) h1
 simp only [List.map_map] at h2
 have key:∀ k:List Nat,(∀ x ∈ k,x<256)->k.map (UInt8.toNat ∘ UInt8.ofNat)=k:=by
  intro k hk
  conv=>rhs;rw [<- List.map_id k]
  apply List.map_congr_left
  intro x hx
  have:=hk x hx
  simp;omega
 rwa [key l hl,key m hm] at h2
theorem conv_bytes {w:World} {A:Option Addr} {n c:Nat} {l:List Nat} (hr:Rd w 1 A n c (bys l)) :
  (convert 44 9 (.slice A n c)).run Tryz.prog w=.ok (.string (strB l)) w:=by
 have hln:l.length=n:=by have:=hr.len;rw [bys_length] at this;omega
 cases A with
 | none =>
  have hc:c=0:=hr.nil rfl
  have hn:n=0:=by have:=hr.cap;omega
  subst hc hn
  obtain rfl:=List.eq_nil_of_length_eq_zero hln
  rw [run_convert_bytes_nil w 44 5 Tryz.underlying44 Tryz.underlying5 0 0 9 Tryz.underlying9]
  rfl
 | some a =>
  have hl:(loadCells a n).run Tryz.prog w=.ok ((l.map fun (x:Nat)=>(x:Int)).map (Value.int .u8)).toArray w:=by
   have:=run_loadCells_list (P:=Tryz.prog) w a (bys l) (fun j v hj=>by
    obtain ⟨a',e,-,hc⟩:=hr.read j v hj
    obtain rfl:=Option.some.inj e
    exact hc)
   rw [bys_length,hln] at this
   rw [List.map_map]
   exact this
  rw [run_convert_bytes_string w 44 9 5 _ n c Tryz.underlying44 Tryz.underlying5 Tryz.underlying9,run_bytesToString w _ n c _ hl,foldl_push_bytes]
  simp [strB,ByteArray.empty,ByteArray.emptyWithCapacity,List.map_map]
  rfl
theorem strB_take {l:List Nat} (hl:∀ x ∈ l,x<256) (k:Nat) (m:List Nat) (hm:∀ x ∈ m,x<256):(((strB l).extract 0 k).toList==m.map UInt8.ofNat)=decide (l.take k=m):=by
 rw [Lib.toList_data,Lib.extract_data]
 rw [Bool.eq_iff_iff]
 simp only [List.drop_zero,Nat.sub_zero,beq_iff_eq,decide_eq_true_eq]
 simp only [strB]
 constructor
 ·intro h
  refine strB_inj (fun x hx=>hl x (List.mem_of_mem_take hx)) hm ?_
  unfold strB
  rw [List.map_take,h]
 ·rintro rfl
  rw [List.map_take]
theorem lite_any (s:ByteArray) (w:World) (h4:4<=s.size) (hs:s.size<=100000000) (r:Bool) (hr:((s.extract 0 4).toList==[70,71,66,49])=r) :
  Calls Tryz.prog 91 #[.string s,.string ⟨#[70,71,66,49]⟩] w fun e w'=>e=.returned (.bool r)∧w'=w:=by
 have h4':(4:Int)<=(s.size:Int):=by omega
 have HR:=hd_ hr
 clear hr
 go_enter Tryz.func91,Tryz.ntmps91
 go_wp2_with fail
 rw [HR.out]
 go_ret
 exact ⟨rfl,rfl⟩
theorem prefix_any (l:List Nat) (hl:∀ x ∈ l,x<256) (w:World) (h4:4<=l.length) (hs:l.length<=100000000) (r:Bool) (hr:decide (l.take 4=magicB)=r) :
  Calls Tryz.prog 35 #[.string (strB l),.string ⟨#[70,71,66,49]⟩] w fun e w'=>e=.returned (.bool r)∧w'=w:=by
 have hp:=lite_any (strB l) w (by rw [strB_size];exact h4) (by rw [strB_size];exact hs) r (by
  rw [<- hr];exact strB_take hl 4 magicB (by decide))
 have HP:=hd_ hp
 generalize strB l=s at HP
 clear hp hr
 go_enter Tryz.func35,Tryz.ntmps35
 go_wp2_with fail
 refine HP.out.mono ?_
 rintro e w1 ⟨rfl,rfl⟩
 go_wp2_with fail
 go_ret
 exact ⟨rfl,rfl⟩
theorem next_any (b:Nat) (a:Addr) (k e c m:Nat) (hm:k+m<=e) (hc:e<c) (he:c<=maxLen) (w:World) (hB:Boxed w b 44 (.slice (some (a.add k)) (e-k) (c-k))) :
  Calls Tryz.prog 38 #[.int .i64 (m:Int),.pointer (some ⟨b,0,none⟩)] w fun r w'=>r=.returned (.slice (some (a.add k)) m (c-k))∧w'=w.setCell ⟨b,0,none⟩ (.slice (some (a.add (k+m))) (e-(k+m)) (c-(k+m))):=by
 have c0:=hB.cell
 have f0:=hB.frozen
 unfold maxLen at he
 go_enter Tryz.func38,Tryz.ntmps38
 go_wp2_with fail
 rw [add_add,Nat.sub_sub,Nat.sub_sub]
 go_ret
 exact ⟨rfl,rfl⟩
theorem next3 (b:Nat) (a:Addr) (k e c:Nat) (hm:k+3<=e) (hc:e<c) (he:c<=maxLen) (w:World) (hB:Boxed w b 44 (.slice (some (a.add k)) (e-k) (c-k))) :
  Calls Tryz.prog 38 #[.int .i64 3,.pointer (some ⟨b,0,none⟩)] w fun r w'=>r=.returned (.slice (some (a.add k)) 3 (c-k))∧w'=w.setCell ⟨b,0,none⟩ (.slice (some (a.add (k+3))) (e-(k+3)) (c-(k+3))):=next_any b a k e c 3 hm hc he w hB
theorem next2 (b:Nat) (a:Addr) (k e c:Nat) (hm:k+2<=e) (hc:e<c) (he:c<=maxLen) (w:World) (hB:Boxed w b 44 (.slice (some (a.add k)) (e-k) (c-k))) :
  Calls Tryz.prog 38 #[.int .i64 2,.pointer (some ⟨b,0,none⟩)] w fun r w'=>r=.returned (.slice (some (a.add k)) 2 (c-k))∧w'=w.setCell ⟨b,0,none⟩ (.slice (some (a.add (k+2))) (e-(k+2)) (c-(k+2))):=next_any b a k e c 2 hm hc he w hB
def BGET (A:Option Addr) (n c:Nat) (w:World) (R:Ending->World->Prop):Prop:=Calls Tryz.prog 12 #[.slice A n c] w R
def GetOut (l:List Nat) (w:World) (e:Ending) (w':World):Prop :=
 Below w.heap.size w w'∧((getE l≠0∧e=.returned (.tuple #[.agg zero7,.int .i64 (getE l)]))∨(getE l=0∧∃ C:Cfg,Told l C∧C.In w'∧e=.returned (.tuple #[.agg C.cells,.int .i64 0])))
theorem add_lit (a:Addr) {k:Nat} (h:0<k):a.add k=⟨a.block,a.off+k,none⟩:=by unfold Addr.add;rw [if_neg (by omega)]
theorem rd_byte {w:World} {a:Addr} {n c k:Nat} {l:List Nat} (h:Rd w 1 (some a) n c (bys l)) (hk:k<n):w.cell? (a.add k)=some (.int .u8 (l.getD k 0:Int)):=by
 obtain ⟨a',e,-,hc⟩:=h.byte hk
 obtain rfl:=Option.some.inj e
 exact hc
theorem rd_cut {w:World} {a:Addr} {n c:Nat} {l:List Nat} (h:Rd w 1 (some a) n c (bys l)) {k m:Nat} (hk:k+m<=n) (hc:k<c):Rd w 1 (some (a.add k)) m (c-k) (bys ((l.drop k).take m)):=by
 have hln:l.length=n:=by have:=h.len;rw [bys_length] at this;omega
 have hcn:=h.cap
 refine ⟨by rw [bys_length,List.length_take,List.length_drop,hln];omega,by omega,(fun e=>by cases e),?_⟩
 intro j u hj
 have hjm:j<m:=by
  have:=(List.getElem?_eq_some_iff.1 hj).1
  rw [bys_length,List.length_take] at this;omega
 refine ⟨_,rfl,?_,?_⟩
 ·rw [add_block]
  obtain ⟨a',e,hb,-⟩:=h.byte (k:=k) (by omega)
  obtain rfl:=Option.some.inj e
  exact hb
 ·rw [add_add,rd_byte h (by omega),<- hj]
  simp [bys,List.getElem?_take,hjm,List.getElem?_drop,List.getD_eq_getElem?_getD,List.getElem?_eq_getElem (show k+j<l.length by omega)]
theorem rd_take {w:World} {a:Addr} {n c:Nat} {l:List Nat} (h:Rd w 1 (some a) n c (bys l)) {m:Nat} (hm:m<=n):Rd w 1 (some a) m c (bys (l.take m)):=by
 have hln:l.length=n:=by have:=h.len;rw [bys_length] at this;omega
 have hcn:=h.cap
 refine ⟨by rw [bys_length,List.length_take,hln];omega,by omega,(fun e=>by cases e),?_⟩
 intro j u hj
 refine h.read j u ?_
 have hjm:j<m:=by
  have:=(List.getElem?_eq_some_iff.1 hj).1
  rw [bys_length,List.length_take] at this;omega
 rw [<- hj]
 simp [bys,List.getElem?_take,hjm]
theorem numB_four (s:Nat) (h:s<4294967296):numB (four s)=s:=by simp [numB,four];omega
theorem bnum2 (w:World) (a:Addr) (n c:Nat) (l:List Nat) (hr:Rd w 1 (some a) n c (bys l)) (hl:∀ x ∈ l,x<256) (hn:n<=10000) (k:Nat) (hk:k+2<=n) (A2:Addr) (hA2:A2=a.add k) :
  Calls Tryz.prog 37 #[.slice (some A2) 2 (c-k)] w fun e w'=>e=.returned (.int .i64 (num2 l k:Int))∧w'=w:=by
 subst hA2
 have hln:l.length=n:=by have:=hr.len;rw [bys_length] at this;omega
 have hcn:=hr.cap
 have h:=bnumber_any w (some (a.add k)) 2 (c-k) ((l.drop k).take 2) (rd_cut hr hk (by omega)) (fun x hx=>hl x (List.mem_of_mem_drop (List.mem_of_mem_take hx))) (by omega)
 rw [take2 (by omega)] at h
 have e:numB [l.getD k 0,l.getD (k+1) 0]=num2 l k:=by simp [numB,num2];omega
 rwa [e] at h
def cfg0 (W H T:Int):Cfg:={ W:=W,H:=H,T:=T,AT:=none,cT:=0,tiles:=[],AO:=none,cO:=0,on:=[],AI:=none,cI:=0,ins:=[],AU:=none,cU:=0,outs:=[] }
theorem GW.start {w W0:World} {W H T:Int} (q0:Below w.heap.size w W0) (r0:Blk W0 w.heap.size 37 zero7) (s0:W0.heap.size=w.heap.size+1) :
  GW w (W0.alloc (.cells #[.int .i64 W,.int .i64 H,.int .i64 T,.slice none 0 0,.slice none 0 0,.slice none 0 0,.slice none 0 0] 37)).drew (w.heap.size+1) (cfg0 W H T):=by
 have hb:Blk (W0.alloc (.cells #[.int .i64 W,.int .i64 H,.int .i64 T,.slice none 0 0,.slice none 0 0,.slice none 0 0,.slice none 0 0] 37)) (w.heap.size+1) 37 (cfg0 W H T).cells:=by
  have:=Blk.made W0 37 (cfg0 W H T).cells
  rwa [s0] at this
 have g:GW w (W0.alloc (.cells #[.int .i64 W,.int .i64 H,.int .i64 T,.slice none 0 0,.slice none 0 0,.slice none 0 0,.slice none 0 0] 37)) (w.heap.size+1) (cfg0 W H T) :=
  ⟨bt_ q0 (bn_ _ _),r0.alloc _,hb,by omega,World.ownsRow_nil _ _ _ _,World.ownsRow_nil _ _ _ _,World.ownsRow_nil _ _ _ _,World.ownsRow_nil _ _ _ _,.inl rfl⟩
 exact g.drewN 1
theorem GS.start {w0 w5:World} {gc:Nat} {C:Cfg} {a:Addr} {e c:Nat} (h:GW w0 w5 gc C) (hb:w0.heap.size<=w5.heap.size∨True):GS w0 (w5.alloc (.cells #[.slice (some (a.add 11)) (e-11) (c-11)] 44)) gc w5.heap.size a e c 11 C :=
 ⟨h.keep (bn_ _ _),Boxed.new w5 44 _,h.lt⟩
def TR1 (C:Cfg) (W H T:Int):Prop:=C.W=W∧C.H=H∧C.T=T∧C.on=[]∧C.ins=[]∧C.outs=[]∧C.AU=none
def TR2 (C:Cfg) (W H T:Int):Prop:=C.W=W∧C.H=H∧C.T=T∧C.ins=[]∧C.outs=[]∧C.AU=none
theorem TR2.of {C:Cfg} {W H T:Int} (h:TR1 C W H T):TR2 C W H T∧C.W=W∧C.H=H∧C.on=[]∧True:=by
 obtain ⟨a,b,c,d,e,f,g⟩:=h
 exact ⟨⟨a,b,c,e,f,g⟩,a,b,d,trivial⟩
def TRW (C:Cfg) (W H T:Int) (l:List Nat) (N:Nat):Prop:=C.W=W∧C.H=H∧C.T=T∧C.tiles=decT l∧C.on=decO l N
theorem tile_info:(Tryz.prog.info? 65).map (fun i=>(i.zero,i.size,i.bytes))=some (some (.agg #[.int .i64 0,.bool false,.bool false]),3,16):=by kernel_rfl
theorem tiles3_snoc (l:List TL) (t:TL):tiles3 (l++[t])=tiles3 l++[.int .i64 t.1,.bool t.2.1,.bool t.2.2]:=by simp [tiles3]
theorem gc_far {w w':World} {gc n c k:Nat} {a:Addr} {l:List Nat} {C:Cfg} (hr:Rd w 1 (some a) n c (bys l)) (h:GW w w' gc C) (hk:k<n) (i o:Nat):(⟨gc,i,none⟩:Addr)≠⟨(a.add k).block,o,none⟩:=by
 obtain ⟨a',e,hb,-⟩:=hr.byte hk
 obtain rfl:=Option.some.inj e
 have:=h.hgc
 intro e'
 have:gc=(a.add k).block:=congrArg Addr.block e'
 rw [add_block] at this
 omega
theorem getE_of {l:List Nat} (h15:15<=l.length) (hm:l.take 4=magicB) (hA:okA (gW l) (gH l) (gT l)) (hsz:l.length=sizeB l (gN l)+4) (hsum:l.drop (sizeB l (gN l))=four (sumB (l.take (sizeB l (gN l))))) :
  getE l=if (oddT l 11 (nT l)||oddS l (atS l) (gN l))=true then 310 else if ¬ okG l then 310 else 0:=by
 unfold getE
 rw [if_neg (by exact fun h=>h.elim (fun h=>by omega) (fun h=>h hm)),if_neg (fun h=>h hA),if_neg (fun h=>h hsz),if_neg (fun h=>h hsum)]
 simp only [Bool.or_eq_true]
theorem results_box {fn:Func} (h:fn.results=#[.cell 2 37,.tmp 3]) (tmps:Array Value) (w:World) (g:Nat) (cs:Array Value) (hs:cs.size=7) (hp:tmps.getD 2 undef=.pointer (some ⟨g,0,none⟩)) (hg:Blk w g 37 cs) :
  (results fn tmps).run Tryz.prog w=.ok (.tuple #[.agg cs,tmps.getD 3 undef]) w:=by
 have hp':tmps[2]?.getD undef=.pointer (some ⟨g,0,none⟩):=by simpa using hp
 have hi:(Tryz.prog.info? 37).map (·.size)=some cs.size:=by rw [hs];kernel_rfl
 simp [results,h,hp',asAddr,run_loadVar_row w g 37 37 cs (0,0) _ hg Tryz.underlying37 rfl hi]
theorem get_err {fn:Func} (hres:fn.results=#[.cell 2 37,.tmp 3]) (l:List Nat) (w wx:World) (tmps:Array Value) (x:Int) (hB:Below w.heap.size w wx) (hZ:Blk wx w.heap.size 37 zero7) (hx:getE l=x) (hx0:x≠0)
  (h2:tmps.getD 2 undef=.pointer (some ⟨w.heap.size,0,none⟩)) (h3:tmps.getD 3 undef=.int .i64 x) :
  bodyPost Tryz.prog fn (GetOut l w) .ret { tmps:=tmps,defers:=[] } (((((((wx.setCell ⟨w.heap.size,0,none⟩ (.int .i64 0)).setCell ⟨w.heap.size,1,none⟩ (.int .i64 0)).setCell ⟨w.heap.size,2,none⟩ (.int .i64 0)).setCell ⟨w.heap.size,3,none⟩ (.slice none 0 0)).setCell ⟨w.heap.size,4,none⟩ (.slice none 0 0)).setCell ⟨w.heap.size,5,none⟩ (.slice none 0 0)).setCell ⟨w.heap.size,6,none⟩ (.slice none 0 0)):=by
 have hz:=set7 hZ rfl (.int .i64 0) (.int .i64 0) (.int .i64 0) (.slice none 0 0) (.slice none 0 0) (.slice none 0 0) (.slice none 0 0)
 have hr:=results_box hres tmps _ _ _ rfl h2 hz
 rw [h3] at hr
 exact bodyPost_ret hr rfl ⟨below7 hB (Nat.le_refl _) _ _ _ _ _ _ _,.inl ⟨by rw [hx];exact hx0,by rw [hx]⟩⟩
theorem get_err0 {fn:Func} (hres:fn.results=#[.cell 2 37,.tmp 3]) (l:List Nat) (w wx:World) (tmps:Array Value) (x:Int) (hB:Below w.heap.size w wx) (hZ:Blk wx w.heap.size 37 zero7) (hx:getE l=x) (hx0:x≠0)
  (h2:tmps.getD 2 undef=.pointer (some ⟨w.heap.size,0,none⟩)) (h3:tmps.getD 3 undef=.int .i64 x) :
  bodyPost Tryz.prog fn (GetOut l w) .ret { tmps:=tmps,defers:=[] } wx:=by
 have hr:=results_box hres tmps _ _ _ rfl h2 hZ
 rw [h3] at hr
 exact bodyPost_ret hr rfl ⟨hB,.inl ⟨by rw [hx];exact hx0,by rw [hx]⟩⟩
theorem own_set7 {w:World} {g base e size n:Nat} {v:Value} {xs:List Value} (h:w.ownsRow base e size v n xs) (hk:g<base) (v0 v1 v2 v3 v4 v5 v6:Value) :
  (((((((w.setCell ⟨g,0,none⟩ v0).setCell ⟨g,1,none⟩ v1).setCell ⟨g,2,none⟩ v2).setCell ⟨g,3,none⟩ v3).setCell ⟨g,4,none⟩ v4).setCell ⟨g,5,none⟩ v5).setCell ⟨g,6,none⟩ v6).ownsRow base e size v n xs :=
 own_set (own_set (own_set (own_set (own_set (own_set (own_set h hk 0 v0) hk 1 v1) hk 2 v2) hk 3 v3) hk 4 v4) hk 5 v5) hk 6 v6
theorem GW.in_ {w0 wx:World} {gc:Nat} {C:Cfg} (h:GW w0 wx gc C):C.In wx:=⟨Rd.of_own h.rT,Rd.of_own h.rO,Rd.of_own h.rI,Rd.of_own h.rU⟩
theorem get_yes {fn:Func} (hres:fn.results=#[.cell 2 37,.tmp 3]) (l:List Nat) (w wx:World) (tmps:Array Value) (gc:Nat) (C:Cfg) (hG:GW w wx gc C) (hx:getE l=0) (hT:Told l C)
  (h2:tmps.getD 2 undef=.pointer (some ⟨w.heap.size,0,none⟩)) (h3:tmps.getD 3 undef=.int .i64 0) :
  bodyPost Tryz.prog fn (GetOut l w) .ret { tmps:=tmps,defers:=[] } (((((((wx.setCell ⟨w.heap.size,0,none⟩ (.int .i64 C.W)).setCell ⟨w.heap.size,1,none⟩ (.int .i64 C.H)).setCell ⟨w.heap.size,2,none⟩ (.int .i64 C.T)).setCell ⟨w.heap.size,3,none⟩ (.slice C.AT C.tiles.length C.cT)).setCell ⟨w.heap.size,4,none⟩ (.slice C.AO C.on.length C.cO)).setCell ⟨w.heap.size,5,none⟩ (.slice C.AI C.ins.length C.cI)).setCell ⟨w.heap.size,6,none⟩ (.slice C.AU C.outs.length C.cU)):=by
 have hz:=set7 hG.res rfl (.int .i64 C.W) (.int .i64 C.H) (.int .i64 C.T) (.slice C.AT C.tiles.length C.cT) (.slice C.AO C.on.length C.cO) (.slice C.AI C.ins.length C.cI) (.slice C.AU C.outs.length C.cU)
 have hr:=results_box hres tmps _ _ _ rfl h2 hz
 rw [h3] at hr
 have hk:w.heap.size<gc+1:=by have:=hG.hgc;omega
 exact bodyPost_ret hr rfl ⟨below7 hG.below (Nat.le_refl _) _ _ _ _ _ _ _,.inr ⟨hx,C,hT,⟨Rd.of_own (own_set7 hG.rT hk _ _ _ _ _ _ _),Rd.of_own (own_set7 hG.rO hk _ _ _ _ _ _ _),Rd.of_own (own_set7 hG.rI hk _ _ _ _ _ _ _),Rd.of_own (own_set7 hG.rU hk _ _ _ _ _ _ _)⟩,rfl⟩⟩
end Go.Proofs.YtmkiphadkmodnaaGreat
