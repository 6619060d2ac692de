/- BfM, 7 -/
import Derived.Laws.AppendOwnNone
import Derived.Lib.AppendZerosOnto
import Derived.Lib.Walk
import Derived.Lib.SliceRun
import Derived.Test.YtmkiphadkmodnaaGreatZBfM0
import Derived.Test.YtmkiphadkmodnaaGreatZBfM6
set_option linter.all false
set_option maxRecDepth 100000
set_option maxHeartbeats 8000000
namespace Go.Proofs.YtmkiphadkmodnaaGreat
open Go.RowKit
theorem grow_none (w:World):Calls Tryz.prog 76 #[.slice none 0 0,.int .i64 0] w fun e w'=>e=.returned (.slice none 0 0)∧w=w':=by
 go_enter Tryz.func76,Tryz.ntmps76
 go_wp2_with fail
 go_ret
 exact ⟨rfl,rfl⟩
theorem grow_some (n:Nat) (w:World) (h0:0<n) (hn:n<=100000000) :
  Calls Tryz.prog 76 #[.slice none 0 0,.int .i64 (n:Int)] w fun e w'=>∃ A c,e=.returned (.slice A 0 c)∧Below w.heap.size w w'∧w'.ownsRow w.heap.size 3 1 (.slice A 0 c) 0 []:=by
 obtain ⟨i0,hi0,hz0,hz1,hz2⟩:=info_parts int_info
 have hold:(Builtin.firstCells i0.size 0 (.slice none 0 0)).run Tryz.prog w.drew=.ok ([]:List Value).toArray w.drew:=run_firstCells_none w.drew i0.size 0 0 0
 have hrz:∀ ty,(Builtin.append_ #[25,3] ty #[.slice none 0 0,.int .i64 (n:Int)]).run Tryz.prog w =
   .ok (.slice (some ⟨w.heap.size,0,none⟩) (0+n) (grownCap w (0+n) 0 3)) (w.drew.alloc (.cells (([]:List Value).toArray++Builtin.zeroCells (Value.int .i64 0).cells n++Builtin.zeroCells (Value.int .i64 0).cells (grownCap w (0+n) 0 3-(0+n))) 3)):=fun ty =>
  Lib.run_append_grow_zeros w 25 3 ty 3 i0 (.int .i64 0) .i64 .i64 Tryz.underlying25 Tryz.underlying3 hi0 hz0 none 0 0 [] hold n h0 (by omega) (by omega) (by omega) (by rw [hz2];omega) (growslice_fits (by omega) (by rw [hz2];omega))
 rw [Nat.zero_add] at hrz
 have hG:=grownCap_ge w n 0 3
 have hG2:=grownCap_le_maxLen w n 0 3 (by unfold maxLen;omega)
 generalize grownCap w n 0 3=G at hrz hG hG2
 have hsz:(([]:List Value).toArray++Builtin.zeroCells (Value.int .i64 0).cells n++Builtin.zeroCells (Value.int .i64 0).cells (G-n)).size=G*1:=by
  simp [Builtin.zeroCells,Value.cells]
  omega
 generalize ([]:List Value).toArray++Builtin.zeroCells (Value.int .i64 0).cells n++Builtin.zeroCells (Value.int .i64 0).cells (G-n)=cs at hrz hsz
 have HR:=hd_ hrz
 have HS:=hd_ hsz
 have HG2:=hd_ hG2
 have h63:G<=9223372036854775807:=by unfold maxLen at hG2;omega
 clear hrz hsz hold hi0 hz0 hz1 hz2 hG2
 go_enter Tryz.func76,Tryz.ntmps76
 go_wp2_with (at_builtin;refine Lib.wpList_append_run _ rfl _ _ _ _ rfl _ _ rfl rfl _ _ (HR.out _) ?_)
 go_ret
 refine ⟨some ⟨w.heap.size,0,none⟩,G,rfl,?_,?_⟩
 ·exact br_.drew.alloc (Nat.le_refl _) _
 ·exact World.ownsRow_made w.drew cs G (Nat.le_refl _) HG2.out HS.out
abbrev SL:Type:=Option Addr × Nat × List Int
def slv (l:SL):Value:=.slice l.1 l.2.2.length l.2.1
def cat (ls:List SL):List Int:=ls.flatMap fun l=>l.2.2
theorem cat_take (ls:List SL) (k:Nat) (h:k<ls.length):cat (ls.take (k+1))=cat (ls.take k)++(ls[k]).2.2:=by
 unfold cat
 rw [List.take_succ_eq_append_getElem h,List.flatMap_append]
 simp only [List.flatMap_cons,List.flatMap_nil,List.append_nil]
theorem cat_take_le (ls:List SL) (k:Nat):(cat (ls.take k)).length<=(cat ls).length:=by
 have:cat ls=cat (ls.take k)++cat (ls.drop k):=by
  unfold cat
  rw [<- List.flatMap_append,List.take_append_drop]
 rw [this,List.length_append]
 omega
theorem concat_any (w:World) (A0:Option Addr) (c0 m:Nat) (ls:List SL) (hm:ls.length=m) (hO:Rd w 1 A0 m c0 (ls.map slv)) (hI:∀ l ∈ ls,Rd w 1 l.1 l.2.2.length l.2.1 (ints l.2.2)) (hm1:m<=100000000) (hs:(cat ls).length<=100000000) :
  Calls Tryz.prog 23 #[.slice A0 m c0] w fun e w'=>∃ A c,e=.returned (.slice A (cat ls).length c)∧Below w.heap.size w w'∧w'.ownsRow w.heap.size 3 1 (.slice A (cat ls).length c) (cat ls).length (ints (cat ls)):=by
 have HM:=hd_ hm
 clear hm
 go_enter Tryz.func23,Tryz.ntmps23
 go_wp2_with fail
 go_loop [3,11] (fun t i=>∃ k:Nat,k<=m∧i=.int .i64 (k:Int)∧t=.int .i64 ((cat (ls.take k)).length:Int)) (fun _ i=>m-(intOf i).toNat)
 case atStart=>exact ⟨0,by omega,rfl,by simp [cat]⟩
 case round =>
  obtain ⟨k,hk,rfl,rfl⟩:=hrel
  have h1:=cat_take_le ls k
  by_cases hlt:k<m
  ·have hk':k<ls.length:=by rw [HM.out];exact hlt
   have h2:=cat_take_le ls (k+1)
   have h3:=cat_take ls k hk'
   have h4:(cat (ls.take (k+1))).length=(cat (ls.take k)).length+(ls[k]).2.2.length:=by rw [h3,List.length_append]
   have h5:(cat (ls.take k)).length+(ls[k]).2.2.length<=100000000:=by omega
   have H4:=hd_ h4
   obtain ⟨a,rfl,hb,hc⟩:=hO.at1 hlt
   have e:(ls.map slv).getD k undef=.slice (ls[k]).1 (ls[k]).2.2.length (ls[k]).2.1:=by
    rw [List.getD_eq_getElem?_getD,List.getElem?_map,List.getElem?_eq_getElem hk'];rfl
   rw [e] at hc
   clear h3 h4 h2 e
   generalize ls[k]=l at hc H4 h5
   obtain ⟨l1,l2,l3⟩:=l
   simp only at hc H4 h5
   go_wp2_with fail
   go_round
   case rel=>exact ⟨k+1,by omega,by go_num,by rw [H4.out];go_num⟩
   case measure=>simp [intOf];omega
  ·obtain rfl:k=m:=by omega
   have hfull:(cat (ls.take k)).length=(cat ls).length:=by rw [List.take_of_length_le (by rw [HM.out];exact Nat.le_refl _)]
   rw [hfull]
   clear hfull h1
   have HS:=hd_ hs
   obtain ⟨n,hn⟩:∃ n,(cat ls).length=n:=⟨_,rfl⟩
   have HN:=hd_ hn
   rw [hn] at hs
   simp only [hn]
   clear hn
   have hgrow:Calls Tryz.prog 76 #[.slice none 0 0,.int .i64 (n:Int)] w fun e w'=>∃ A c,e=.returned (.slice A 0 c)∧Below w.heap.size w w'∧w'.ownsRow w.heap.size 3 1 (.slice A 0 c) 0 []:=by
    rcases Nat.eq_zero_or_pos n with h0|h0
    ·subst h0
     exact (grow_none w).mono fun e w' ⟨he,hw⟩=>⟨none,0,he,by rw [<- hw];exact br_,by rw [<- hw];exact World.ownsRow_nil _ _ _ _⟩
    ·exact grow_some n w h0 hs
   have HG:=hd_ hgrow
   clear hgrow
   go_wp2_with fail
   refine (HG.out).mono ?_
   rintro e w1 ⟨A1,c1,rfl,hb1,hown1⟩
   obtain ⟨i0,hi0,hz0,hz1,hz2⟩:=info_parts int_info
   have HI0:=hd_ hi0
   have HZ0:=hd_ hz0
   have HZ1:=hd_ hz1
   have HZ2:=hd_ hz2
   have HO1:=hd_ hown1
   have HB1:=hd_ hb1
   clear hi0 hz0 hz1 hz2 hown1 hb1
   go_wp2_with fail
   go_loopw [6,27] (fun v i wx=>∃ q:Nat,q<=k∧i=.int .i64 (q:Int)∧Below w.heap.size w wx∧wx.ownsRow w.heap.size 3 1 v (cat (ls.take q)).length (ints (cat (ls.take q)))) (fun _ i _=>k-(intOf i).toNat)
   case atStart=>exact ⟨0,by omega,rfl,HB1.out,by simpa [cat,ints] using HO1.out⟩
   case round =>
    clear HO1 HB1
    obtain ⟨q,hq,rfl,hbr,hown⟩:=hrel
    obtain ⟨AA,c,rfl⟩:=own_slice hown
    have HB:=hd_ hbr
    have HO:=hd_ hown
    have hsz:=hbr.size
    clear hbr hown
    by_cases hlt:q<k
    ·have hk':q<ls.length:=by rw [HM.out];exact hlt
     have h2:=cat_take_le ls (q+1)
     have h3:=cat_take ls q hk'
     have h5:(cat (ls.take q)).length+(ls[q]).2.2.length<=100000000:=by rw [h3,List.length_append] at h2;have:=HS.out;omega
     have H3:=hd_ h3
     have hR:=hd_ ((hI ls[q] (List.getElem_mem hk')))
     obtain ⟨a,rfl,hb,hc⟩:=hO.at1 hlt
     have e:(ls.map slv).getD q undef=.slice (ls[q]).1 (ls[q]).2.2.length (ls[q]).2.1:=by
      rw [List.getD_eq_getElem?_getD,List.getElem?_map,List.getElem?_eq_getElem hk'];rfl
     rw [e] at hc
     have hc':=(HB.out.cell (p:=a.add q) (by rw [add_block];exact hb)).trans hc
     clear h3 h2 e hc
     generalize ls[q]=l at hc' H3 h5 hR
     obtain ⟨l1,l2,l3⟩:=l
     simp only at hc' H3 h5 hR
     generalize cat (ls.take q)=P at HO H3 h5
     cases l1 with
     | none =>
      have hl2:l2=0:=hR.out.nil rfl
      have hl3:l3.length=0:=by have:=hR.out.cap;omega
      subst hl2
      obtain rfl:l3=[]:=List.eq_nil_of_length_eq_zero hl3
      clear hl3 hR
      simp only [List.length_nil] at hc'
      go_wp2_with (at_builtin;refine wpList_append_own_none rfl (.tmp 31) (.tmp 32) 25 rfl w.heap.size 3 i0 1 Tryz.underlying25 HI0.out (.slice AA P.length c) P.length (ints P) rfl HO.out rfl ?_)
      go_wp2_with fail
      go_roundw
      case rel=>exact ⟨q+1,by omega,by go_num,HB.out,by rw [H3.out,List.append_nil];exact HO.out⟩
      case measure=>simp [intOf];omega
     | some ad =>
      go_wp2_with (at_builtin;refine wpList_append_own _ rfl (.tmp 31) (.tmp 32) 25 rfl w.heap.size 3 i0 (.int .i64 0) 1 8 Tryz.underlying25 HI0.out HZ0.out HZ1.out HZ2.out rfl (by decide) (.slice AA P.length c) P.length (ints P) rfl HO.out ad l3.length l2 (ints l3) rfl (by rw [ints_length,Nat.mul_one]) ?c1 ?c2 ?c3 ?c4 ?c5 ?_)
      case c1 =>
       intro j u hj
       obtain ⟨b,hb1,hb2,hb3⟩:=(hR.out.later HB.out).read j u hj
       injection hb1 with hb1
       subst hb1
       exact hb3
      case c2 =>
       intro u hu
       obtain ⟨x,-,rfl⟩:=List.mem_map.1 hu
       rfl
      case c3=>unfold maxLen;omega
      case c4=>omega
      case c5=>exact hsz
      intro v' w2 hown2 hg2 hnil
      have HO2:=hd_ hown2
      have HB2:=hd_ (HB.out.grown hg2 hsz (fun k hk=>own_base HO.out hk))
      clear hown2 hg2 hnil
      go_wp2_with fail
      go_roundw
      case rel=>exact ⟨q+1,by omega,by go_num,HB2.out,by rw [H3.out,List.length_append,ints_append];exact HO2.out⟩
      case measure=>simp [intOf];omega
    ·obtain rfl:q=k:=by omega
     have hfull:cat (ls.take q)=cat ls:=by rw [List.take_of_length_le (by rw [HM.out];exact Nat.le_refl _)]
     have HF:=hd_ hfull
     clear hfull
     go_wp2_with fail
     go_ret
     refine ⟨AA,c,?_,HB.out,?_⟩
     ·rw [HF.out,HN.out];rfl
     ·have:=HO.out;rw [HF.out] at this;exact this
end Go.Proofs.YtmkiphadkmodnaaGreat
namespace Go.Proofs.YtmkiphadkmodnaaGreat
open Go.RowKit
abbrev TL:Type:=Int × Bool × Bool
def tiles3 (l:List TL):List Value:=l.flatMap fun t=>[.int .i64 t.1,.bool t.2.1,.bool t.2.2]
theorem tiles3_length (l:List TL):(tiles3 l).length=l.length*3:=by
 induction l with
 | nil=>rfl
 | cons t l ih=>simp only [tiles3,List.flatMap_cons,List.length_append,List.length_cons] at ih ⊢;simp at ih ⊢;omega
theorem tiles3_get:∀ (l:List TL) (k:Nat),k<l.length ->
  (tiles3 l)[k*3]? = some (.int .i64 (l[k]!).1)∧(tiles3 l)[k*3+1]? = some (.bool (l[k]!).2.1)∧(tiles3 l)[k*3+2]? = some (.bool (l[k]!).2.2)
 | [],k,h=>by simp at h
 | t::l,0,_=>by simp [tiles3]
 | t::l,k+1,h=>by
  obtain ⟨h1,h2,h3⟩:=tiles3_get l k (by simpa using h)
  have e:tiles3 (t::l)=[.int .i64 t.1,.bool t.2.1,.bool t.2.2]++tiles3 l:=rfl
  rw [e,show (k+1)*3=k*3+3 by omega]
  have g:∀ j,([Value.int .i64 t.1,.bool t.2.1,.bool t.2.2]++tiles3 l)[k*3+3+j]? = (tiles3 l)[k*3+j]?:=fun j=>by
   rw [List.getElem?_append_right (by simp;omega)]
   congr 1
   simp
   omega
  have g0:=g 0
  have e1:(t::l)[k+1]! = l[k]!:=by simp
  rw [e1]
  exact ⟨g0.trans h1,(g 1).trans h2,(g 2).trans h3⟩
theorem add_field (a:Addr) (m j:Nat) (h:0<j):(⟨(a.add m).block,(a.add m).off+j,none⟩:Addr)=a.add (m+j):=by
 unfold Addr.add
 by_cases hm:m=0
 ·subst hm;rw [if_pos rfl,if_neg (by omega),Nat.zero_add]
 ·rw [if_neg hm,if_neg (by omega)];simp [Nat.add_assoc]
theorem Rd.tile {w:World} {A:Option Addr} {n c:Nat} {l:List TL} (h:Rd w 3 A n c (tiles3 l)) {k:Nat} (hk:k<n) :
  ∃ a,A=some a∧a.block<w.heap.size∧w.cell? (a.add (k*3))=some (.int .i64 (l[k]!).1)∧w.cell? ⟨(a.add (k*3)).block,(a.add (k*3)).off+1,none⟩=some (.bool (l[k]!).2.1)∧w.cell? ⟨(a.add (k*3)).block,(a.add (k*3)).off+2,none⟩=some (.bool (l[k]!).2.2):=by
 have hl:k<l.length:=by have:=h.len;rw [tiles3_length] at this;omega
 obtain ⟨g1,g2,g3⟩:=tiles3_get l k hl
 obtain ⟨a,e,hb,h1⟩:=h.read _ _ g1
 obtain ⟨a2,e2,-,h2⟩:=h.read _ _ g2
 obtain ⟨a3,e3,-,h3⟩:=h.read _ _ g3
 rw [e] at e2 e3
 injection e2 with e2
 injection e3 with e3
 subst e2 e3
 exact ⟨a,e,hb,h1,by rw [add_field a (k*3) 1 (by omega)];exact h2,by rw [add_field a (k*3) 2 (by omega)];exact h3⟩
structure Cfg where
 W:Int
 H:Int
 T:Int
 AT:Option Addr
 cT:Nat
 tiles:List TL
 AO:Option Addr
 cO:Nat
 on:List Bool
 AI:Option Addr
 cI:Nat
 ins:List Int
 AU:Option Addr
 cU:Nat
 outs:List Int
abbrev Cfg.cells (C:Cfg):Array Value:=#[.int .i64 C.W,.int .i64 C.H,.int .i64 C.T,.slice C.AT C.tiles.length C.cT,.slice C.AO C.on.length C.cO,.slice C.AI C.ins.length C.cI,.slice C.AU C.outs.length C.cU]
structure Cfg.In (C:Cfg) (w:World):Prop where
 tiles:Rd w 3 C.AT C.tiles.length C.cT (tiles3 C.tiles)
 on:Rd w 1 C.AO C.on.length C.cO (bools C.on)
 ins:Rd w 1 C.AI C.ins.length C.cI (ints C.ins)
 outs:Rd w 1 C.AU C.outs.length C.cU (ints C.outs)
theorem Cfg.In.later {C:Cfg} {w w':World} (h:C.In w) (hb:Below w.heap.size w w'):C.In w':=⟨h.tiles.later hb,h.on.later hb,h.ins.later hb,h.outs.later hb⟩
structure Box7 (w:World) (b:Nat) (C:Cfg):Prop where
 lt:b<w.heap.size
 c0:w.cell? ⟨b,0,none⟩=some (.int .i64 C.W)
 c1:w.cell? ⟨b,1,none⟩=some (.int .i64 C.H)
 c2:w.cell? ⟨b,2,none⟩=some (.int .i64 C.T)
 c3:w.cell? ⟨b,3,none⟩=some (.slice C.AT C.tiles.length C.cT)
 c4:w.cell? ⟨b,4,none⟩=some (.slice C.AO C.on.length C.cO)
 c5:w.cell? ⟨b,5,none⟩=some (.slice C.AI C.ins.length C.cI)
 c6:w.cell? ⟨b,6,none⟩=some (.slice C.AU C.outs.length C.cU)
theorem Box7.below {W w:World} {b:Nat} {C:Cfg} (h:Box7 W b C) (hb:Below W.heap.size W w):Box7 w b C :=
 have k:=fun j=>hb.cell (p:=⟨b,j,none⟩) h.lt
 ⟨Nat.lt_of_lt_of_le h.lt hb.size,(k 0).trans h.c0,(k 1).trans h.c1,(k 2).trans h.c2,(k 3).trans h.c3,(k 4).trans h.c4,(k 5).trans h.c5,(k 6).trans h.c6⟩
theorem box7_low {W w:World} {b B:Nat} {C:Cfg} (h:Box7 W b C) (hb:Below B W w) (hB:b<B):Box7 w b C :=
 have k:=fun j=>hb.cell (p:=⟨b,j,none⟩) hB
 ⟨Nat.lt_of_lt_of_le h.lt hb.size,(k 0).trans h.c0,(k 1).trans h.c1,(k 2).trans h.c2,(k 3).trans h.c3,(k 4).trans h.c4,(k 5).trans h.c5,(k 6).trans h.c6⟩
theorem Box7.new (w:World) (C:Cfg) (t:TypeId):Box7 (w.alloc (.cells #[.int .i64 C.W,.int .i64 C.H,.int .i64 C.T,.slice C.AT C.tiles.length C.cT,.slice C.AO C.on.length C.cO,.slice C.AI C.ins.length C.cI,.slice C.AU C.outs.length C.cU] t)) w.heap.size C :=
 ⟨by simp,World.cell?_alloc_at _ _ _ _ rfl,World.cell?_alloc_at _ _ _ _ rfl,World.cell?_alloc_at _ _ _ _ rfl,World.cell?_alloc_at _ _ _ _ rfl,World.cell?_alloc_at _ _ _ _ rfl,World.cell?_alloc_at _ _ _ _ rfl,World.cell?_alloc_at _ _ _ _ rfl⟩
def Cfg.few (C:Cfg):Prop:=C.tiles.length<=1000∧C.on.length<=50000∧C.ins.length<=5000∧C.outs.length<=5000
def oddB (t:TL):Bool:=decide (t.1<0)||decide (65535<t.1)||(t.2.2&&!t.2.1)
def padsOk (n:Int):List Int->Prop:=fun l=>(∀ p ∈ l,0<=p∧p<n)∧l.Nodup
instance (n:Int) (l:List Int):Decidable (padsOk n l):=by unfold padsOk;infer_instance
def Cfg.ok (C:Cfg):Prop:=okA C.W C.H C.T∧padsOk (2*C.W+2*C.H) (C.ins++C.outs)∧(C.tiles.length:Int)=C.W*C.H∧C.on.length=(edgesL C.W C.H C.T).length∧C.tiles.any oddB=false
instance (C:Cfg):Decidable C.ok:=by unfold Cfg.ok;infer_instance
def Cfg.E (C:Cfg):Int:=if C.ok then 0 else 1
end Go.Proofs.YtmkiphadkmodnaaGreat
namespace Go.Proofs.YtmkiphadkmodnaaGreat
def fnv (s b:Nat):Nat:=((s ^^^ b)*16777619)%4294967296
def sumB (l:List Nat):Nat:=l.foldl fnv 2166136261
theorem sumB_snoc (l:List Nat) (x:Nat):sumB (l++[x])=fnv (sumB l) x:=by
 unfold sumB
 rw [List.foldl_append,List.foldl_cons,List.foldl_nil]
theorem fnv_lt (s b:Nat):fnv s b<4294967296:=Nat.mod_lt _ (by decide)
theorem fold_lt:∀ (l:List Nat) (s:Nat),s<4294967296->l.foldl fnv s<4294967296
 | [],s,h=>h
 | x::l,s,h=>fold_lt l _ (fnv_lt s x)
theorem sumB_lt (l:List Nat):sumB l<4294967296:=fold_lt l _ (by decide)
def two (n:Nat):List Nat:=[n/256%256,n%256]
def four (s:Nat):List Nat:=[s/16777216%256,s/65536%256,s/256%256,s%256]
def flag (t:TL):Nat:=(if t.2.1 then 1 else 0)+(if t.2.2 then 2 else 0)
def tileB (t:TL):List Nat:=two t.1.toNat++[flag t]
def byteB:List Bool->Nat
 | []=>0
 | b::l=>(if b then 1 else 0)+2*byteB l
def packB (l:List Bool):List Nat:=(List.range ((l.length+7)/8)).map fun i=>byteB ((l.drop (8*i)).take 8)
def padB (p:Int):List Nat:=two p.toNat
def num2 (l:List Nat) (i:Nat):Nat:=256*l.getD i 0+l.getD (i+1) 0
theorem byteB_lt:∀ l:List Bool,byteB l<2 ^ l.length
 | []=>by simp [byteB]
 | b::l=>by
  have:=byteB_lt l
  simp only [byteB,List.length_cons,Nat.pow_succ]
  split <;> omega
theorem byteB_bit:∀ (l:List Bool) (k:Nat),byteB l/2 ^ k%2=if l.getD k false then 1 else 0
 | [],k=>by simp [byteB]
 | b::l,0=>by
  simp only [byteB,Nat.pow_zero,Nat.div_one,List.getD_cons_zero]
  split <;> omega
 | b::l,k+1=>by
  have h:=byteB_bit l k
  rw [List.getD_cons_succ,<- h,Nat.pow_succ,Nat.mul_comm (2 ^ k) 2,<- Nat.div_div_eq_div_mul]
  congr 2
  simp only [byteB]
  split <;> omega
theorem flat_get {α:Type} {f:α->List Nat} {k:Nat} (hf:∀ x,(f x).length=k):∀ (l:List α) (r:List Nat) (i j:Nat) (hi:i<l.length),j<k->(l.flatMap f++r).getD (k*i+j) 0=(f l[i]).getD j 0
 | [],r,i,j,hi,hj=>by simp at hi
 | x::l,r,0,j,hi,hj=>by
  rw [List.flatMap_cons,List.append_assoc,Nat.mul_zero,Nat.zero_add,List.getD_eq_getElem?_getD,List.getElem?_append_left (by rw [hf];exact hj)]
  simp [List.getD_eq_getElem?_getD]
 | x::l,r,i+1,j,hi,hj=>by
  rw [List.flatMap_cons,List.append_assoc,List.getD_eq_getElem?_getD,List.getElem?_append_right (by rw [hf,Nat.mul_succ];omega),hf,
   show k*(i+1)+j-k=k*i+j by rw [Nat.mul_succ];omega,<- List.getD_eq_getElem?_getD,flat_get hf l r i j (by simpa using hi) hj]
  simp
theorem flat_len {α:Type} {f:α->List Nat} {k:Nat} (hf:∀ x,(f x).length=k):∀ l:List α,(l.flatMap f).length=k*l.length
 | []=>by simp
 | x::l=>by rw [List.flatMap_cons,List.length_append,hf,flat_len hf l,List.length_cons,Nat.mul_succ];omega
theorem take2 {l:List Nat} {i:Nat} (h:i+2<=l.length):(l.drop i).take 2=[l.getD i 0,l.getD (i+1) 0]:=by
 rw [List.drop_eq_getElem_cons (by omega),List.take_succ_cons,List.drop_eq_getElem_cons (by omega),List.take_succ_cons,List.take_zero]
 simp [List.getD_eq_getElem?_getD,List.getElem?_eq_getElem,show i<l.length by omega,show i+1<l.length by omega]
theorem getD_lt {l:List Nat} (h:∀ x ∈ l,x<256) (i:Nat):l.getD i 0<256:=by
 rw [List.getD_eq_getElem?_getD]
 by_cases c:i<l.length
 ·rw [List.getElem?_eq_getElem c];exact h _ (List.getElem_mem c)
 ·rw [List.getElem?_eq_none (by omega)];simp
def headB (W H T:Int) (i o:Nat):List Nat:=[70,71,66,49,W.toNat,H.toNat,T.toNat]++two i++two o
def bodyB (W H T:Int) (tiles:List TL) (on:List Bool) (ins outs:List Int):List Nat :=
 headB W H T ins.length outs.length++tiles.flatMap tileB++packB on++(ins++outs).flatMap padB
def putB (W H T:Int) (tiles:List TL) (on:List Bool) (ins outs:List Int):List Nat :=
 bodyB W H T tiles on ins outs++four (sumB (bodyB W H T tiles on ins outs))
theorem headB_len (W H T:Int) (i o:Nat):(headB W H T i o).length=11:=by simp [headB,two]
theorem tileB_len (t:TL):(tileB t).length=3:=by simp [tileB,two]
theorem padB_len (p:Int):(padB p).length=2:=by simp [padB,two]
theorem packB_len (l:List Bool):(packB l).length=(l.length+7)/8:=by simp [packB]
theorem bodyB_len (W H T:Int) (tiles:List TL) (on:List Bool) (ins outs:List Int):(bodyB W H T tiles on ins outs).length=11+3*tiles.length+(on.length+7)/8+2*(ins.length+outs.length):=by
 unfold bodyB
 rw [List.length_append,List.length_append,List.length_append,headB_len,flat_len tileB_len,packB_len,flat_len padB_len,List.length_append]
theorem putB_len (W H T:Int) (tiles:List TL) (on:List Bool) (ins outs:List Int):(putB W H T tiles on ins outs).length=15+3*tiles.length+(on.length+7)/8+2*(ins.length+outs.length):=by
 unfold putB
 rw [List.length_append,bodyB_len]
 simp [four];omega
theorem packB_lt (l:List Bool):∀ x ∈ packB l,x<256:=by
 intro x hx
 unfold packB at hx
 obtain ⟨i,-,rfl⟩:=List.mem_map.1 hx
 have h1:=byteB_lt ((l.drop (8*i)).take 8)
 have h2:((l.drop (8*i)).take 8).length<=8:=by simp;omega
 have h3:=Nat.pow_le_pow_right (n:=2) (by omega) h2
 omega
theorem two_lt (n:Nat):∀ x ∈ two n,x<256:=by
 intro x hx
 simp only [two,List.mem_cons,List.not_mem_nil,or_false] at hx
 omega
theorem four_lt (n:Nat):∀ x ∈ four n,x<256:=by
 intro x hx
 simp only [four,List.mem_cons,List.not_mem_nil,or_false] at hx
 omega
theorem flag_lt (t:TL):flag t<4:=by unfold flag;split <;> split <;> omega
theorem putB_lt {W H T:Int} (hW:W<=255∧H<=255∧T<=255) (tiles:List TL) (on:List Bool) (ins outs:List Int):∀ x ∈ putB W H T tiles on ins outs,x<256:=by
 intro x hx
 simp only [putB,bodyB,headB,List.mem_append,List.mem_cons,List.not_mem_nil,or_false,List.mem_flatMap] at hx
 rcases hx with (((((hx|hx)|hx)|⟨t,-,hx⟩)|hx)|⟨p,-,hx⟩)|hx
 ·omega
 ·exact two_lt _ _ hx
 ·exact two_lt _ _ hx
 ·simp only [tileB,List.mem_append,List.mem_singleton] at hx
  rcases hx with hx|rfl
  ·exact two_lt _ _ hx
  ·have:=flag_lt t;omega
 ·exact packB_lt _ _ hx
 ·exact two_lt _ _ hx
 ·exact four_lt _ _ hx
def tilesAt (b:List Nat) (at_ n:Nat):List TL:=(List.range n).map fun i=>((num2 b (at_+3*i):Int),decide (b.getD (at_+3*i+2) 0%2=1),decide (b.getD (at_+3*i+2) 0/2%2=1))
def bitsAt (b:List Nat) (at_ n:Nat):List Bool:=(List.range n).map fun i=>decide (b.getD (at_+i/8) 0/2 ^ (i%8)%2=1)
def numsAt (b:List Nat) (at_ n:Nat):List Int:=(List.range n).map fun i=>(num2 b (at_+2*i):Int)
def oddT (b:List Nat) (at_ n:Nat):Bool:=(List.range n).any fun i=>decide (3<b.getD (at_+3*i+2) 0)
def oddS (b:List Nat) (at_ n:Nat):Bool:=decide (n%8≠0)&&decide (b.getD (at_+n/8) 0/2 ^ (n%8)≠0)
theorem tilesAt_len (b:List Nat) (a n:Nat):(tilesAt b a n).length=n:=by simp [tilesAt]
theorem bitsAt_len (b:List Nat) (a n:Nat):(bitsAt b a n).length=n:=by simp [bitsAt]
theorem numsAt_len (b:List Nat) (a n:Nat):(numsAt b a n).length=n:=by simp [numsAt]
theorem getD_app {l r:List Nat} (a i:Nat) (h:l.length=a):(l++r).getD (a+i) 0=r.getD i 0:=by
 rw [List.getD_eq_getElem?_getD,List.getElem?_append_right (by omega),show a+i-l.length=i by omega,<- List.getD_eq_getElem?_getD]
theorem tilesAt_put {l:List Nat} {a:Nat} (h:l.length=a) (ts:List TL) (hts:∀ t ∈ ts,0<=t.1∧t.1<=65535) (r:List Nat):tilesAt (l++(ts.flatMap tileB++r)) a ts.length=ts∧oddT (l++(ts.flatMap tileB++r)) a ts.length=false:=by
 have key:∀ i (hi:i<ts.length) j,j<3->(l++(ts.flatMap tileB++r)).getD (a+3*i+j) 0=(tileB ts[i]).getD j 0:=fun i hi j hj=>by
  rw [Nat.add_assoc,getD_app a _ h,flat_get tileB_len ts r i j hi hj]
 constructor
 ·apply List.ext_getElem
  ·rw [tilesAt_len]
  ·intro i h1 hi
   have k0:=key i hi 0 (by omega)
   have k1:=key i hi 1 (by omega)
   have k2:=key i hi 2 (by omega)
   have hb:=hts ts[i] (List.getElem_mem hi)
   simp only [tilesAt,List.getElem_map,List.getElem_range,num2]
   rw [Nat.add_zero] at k0
   rw [k0,k1,k2]
   generalize ts[i]=t at hb
   obtain ⟨x,f,g⟩:=t
   simp only [tileB,two,flag,List.cons_append,List.nil_append,List.getD_cons_zero,List.getD_cons_succ]
   refine Prod.ext ?_ (Prod.ext ?_ ?_)
   ·simp only at hb ⊢;omega
   ·cases f <;> cases g <;> simp
   ·cases f <;> cases g <;> simp
 ·unfold oddT
  rw [List.any_eq_false]
  intro i hi
  rw [List.mem_range] at hi
  rw [key i hi 2 (by omega)]
  have:=flag_lt ts[i]
  simp [tileB,two];omega
theorem packB_get {l:List Bool} {i:Nat} (h:i<(l.length+7)/8) (r:List Nat):(packB l++r).getD i 0=byteB ((l.drop (8*i)).take 8):=by
 rw [List.getD_eq_getElem?_getD,List.getElem?_append_left (by rw [packB_len];exact h)]
 simp [packB,h]
theorem bitsAt_put {l:List Nat} {a:Nat} (h:l.length=a) (on:List Bool) (r:List Nat):bitsAt (l++(packB on++r)) a on.length=on∧oddS (l++(packB on++r)) a on.length=false:=by
 constructor
 ·apply List.ext_getElem
  ·rw [bitsAt_len]
  ·intro i h1 hi
   simp only [bitsAt,List.getElem_map,List.getElem_range]
   rw [getD_app a _ h,packB_get (by omega),byteB_bit]
   have:((on.drop (8*(i/8))).take 8).getD (i%8) false=on[i]:=by
    rw [List.getD_eq_getElem?_getD,List.getElem?_take_of_lt (by omega),List.getElem?_drop,show 8*(i/8)+i%8=i by omega,List.getElem?_eq_getElem hi]
    rfl
   rw [this]
   cases on[i] <;> simp
 ·unfold oddS
  by_cases c:on.length%8=0
  ·simp [c]
  ·rw [getD_app a _ h,packB_get (by omega)]
   have h1:=byteB_lt ((on.drop (8*(on.length/8))).take 8)
   have h2:((on.drop (8*(on.length/8))).take 8).length=on.length%8:=by simp;omega
   rw [h2] at h1
   rw [Nat.div_eq_of_lt h1]
   simp
theorem numsAt_put {l:List Nat} {a:Nat} (h:l.length=a) (ps:List Int) (hps:∀ p ∈ ps,0<=p∧p<=65535) (r:List Nat):numsAt (l++(ps.flatMap padB++r)) a ps.length=ps:=by
 have key:∀ i (hi:i<ps.length) j,j<2->(l++(ps.flatMap padB++r)).getD (a+2*i+j) 0=(padB ps[i]).getD j 0:=fun i hi j hj=>by
  rw [Nat.add_assoc,getD_app a _ h,flat_get padB_len ps r i j hi hj]
 apply List.ext_getElem
 ·rw [numsAt_len]
 ·intro i h1 hi
  have k0:=key i hi 0 (by omega)
  have k1:=key i hi 1 (by omega)
  have hb:=hps ps[i] (List.getElem_mem hi)
  simp only [numsAt,List.getElem_map,List.getElem_range,num2]
  rw [Nat.add_zero] at k0
  rw [k0,k1]
  generalize ps[i]=x at hb
  simp only [padB,two,List.getD_cons_zero,List.getD_cons_succ]
  omega
def nT (b:List Nat):Nat:=b.getD 4 0*b.getD 5 0
def nI (b:List Nat):Nat:=num2 b 7
def nU (b:List Nat):Nat:=num2 b 9
def atS (b:List Nat):Nat:=11+3*nT b
def atP (b:List Nat) (n:Nat):Nat:=atS b+(n+7)/8
def sizeB (b:List Nat) (n:Nat):Nat:=atP b n+2*(nI b+nU b)
def decT (b:List Nat):List TL:=tilesAt b 11 (nT b)
def decO (b:List Nat) (n:Nat):List Bool:=bitsAt b (atS b) n
def decI (b:List Nat) (n:Nat):List Int:=numsAt b (atP b n) (nI b)
def decU (b:List Nat) (n:Nat):List Int:=numsAt b (atP b n+2*nI b) (nU b)
structure Small (W H T:Int) (tiles:List TL) (ins outs:List Int):Prop where
 W0:0<=W∧W<=255
 H0:0<=H∧H<=255
 T0:0<=T∧T<=255
 nt:(tiles.length:Int)=W*H
 ts:∀ t ∈ tiles,0<=t.1∧t.1<=65535
 ni:ins.length<65536
 nu:outs.length<65536
 ps:∀ p ∈ ins++outs,0<=p∧p<=65535
theorem put_dec {W H T:Int} {tiles:List TL} {on:List Bool} {ins outs:List Int} (h:Small W H T tiles ins outs) {b:List Nat} (hb:putB W H T tiles on ins outs=b) :
  (b.getD 4 0:Int)=W∧(b.getD 5 0:Int)=H∧(b.getD 6 0:Int)=T∧nT b=tiles.length∧nI b=ins.length∧nU b=outs.length∧sizeB b on.length=(bodyB W H T tiles on ins outs).length∧b.length=sizeB b on.length+4 ∧
  b.take (sizeB b on.length)=bodyB W H T tiles on ins outs∧b.drop (sizeB b on.length)=four (sumB (bodyB W H T tiles on ins outs)) ∧
  decT b=tiles∧decO b on.length=on∧decI b on.length=ins∧decU b on.length=outs∧oddT b 11 (nT b)=false∧oddS b (atS b) on.length=false∧b.take 4=[70,71,66,49]:=by
 obtain ⟨hW,hH,hT,hnt,hts,hni,hnu,hps⟩:=h
 have hlen:=putB_len W H T tiles on ins outs
 rw [hb] at hlen
 have e0:b=headB W H T ins.length outs.length++(tiles.flatMap tileB++(packB on++(ins.flatMap padB++(outs.flatMap padB++four (sumB (bodyB W H T tiles on ins outs)))))):=by
  rw [<- hb]
  unfold putB
  generalize sumB (bodyB W H T tiles on ins outs)=s
  unfold bodyB
  simp only [List.append_assoc,List.flatMap_append]
 have eh:b.take 11=headB W H T ins.length outs.length:=by rw [e0,List.take_left' (headB_len ..)]
 have g:∀ i,i<11->b.getD i 0=(headB W H T ins.length outs.length).getD i 0:=fun i hi=>by
  rw [<- eh,List.getD_eq_getElem?_getD,List.getD_eq_getElem?_getD,List.getElem?_take_of_lt hi]
 have g4:=g 4 (by omega)
 have g5:=g 5 (by omega)
 have g6:=g 6 (by omega)
 have g7:=g 7 (by omega)
 have g8:=g 8 (by omega)
 have g9:=g 9 (by omega)
 have g10:=g 10 (by omega)
 simp only [headB,two,List.cons_append,List.nil_append,List.getD_cons_zero,List.getD_cons_succ] at g4 g5 g6 g7 g8 g9 g10
 have v4:(b.getD 4 0:Int)=W:=by omega
 have v5:(b.getD 5 0:Int)=H:=by omega
 have v6:(b.getD 6 0:Int)=T:=by omega
 have vT:nT b=tiles.length:=by unfold nT;rw [<- v4,<- v5,<- Int.natCast_mul] at hnt;omega
 have vI:nI b=ins.length:=by unfold nI num2;rw [g7,g8];omega
 have vU:nU b=outs.length:=by unfold nU num2;rw [g9,g10];omega
 have vs:atS b=11+3*tiles.length:=by unfold atS;rw [vT]
 have vp:atP b on.length=11+3*tiles.length+(on.length+7)/8:=by unfold atP;rw [vs]
 have vz:sizeB b on.length=(bodyB W H T tiles on ins outs).length:=by unfold sizeB;rw [vp,vI,vU,bodyB_len]
 have l1:=headB_len W H T ins.length outs.length
 have l2:(headB W H T ins.length outs.length++tiles.flatMap tileB).length=11+3*tiles.length:=by rw [List.length_append,l1,flat_len tileB_len]
 have l3:(headB W H T ins.length outs.length++tiles.flatMap tileB++packB on).length=11+3*tiles.length+(on.length+7)/8:=by rw [List.length_append,l2,packB_len]
 have l4:(headB W H T ins.length outs.length++tiles.flatMap tileB++packB on++ins.flatMap padB).length=11+3*tiles.length+(on.length+7)/8+2*ins.length:=by rw [List.length_append,l3,flat_len padB_len]
 refine ⟨v4,v5,v6,vT,vI,vU,vz,?_,?_,?_,?_,?_,?_,?_,?_,?_,?_⟩
 ·rw [vz,hlen,bodyB_len];omega
 ·rw [vz,<- hb];unfold putB;rw [List.take_left' rfl]
 ·rw [vz,<- hb];unfold putB;rw [List.drop_left' rfl]
 ·unfold decT;rw [vT];conv=>lhs;rw [e0]
  exact (tilesAt_put l1 tiles hts _).1
 ·unfold decO;rw [vs];conv=>lhs;rw [e0,<- List.append_assoc]
  exact (bitsAt_put l2 on _).1
 ·unfold decI;rw [vp,vI];conv=>lhs;rw [e0,<- List.append_assoc,<- List.append_assoc]
  exact numsAt_put l3 ins (fun p hp=>hps p (by simp [hp])) _
 ·unfold decU;rw [vp,vI,vU];conv=>lhs;rw [e0,<- List.append_assoc,<- List.append_assoc,<- List.append_assoc]
  exact numsAt_put l4 outs (fun p hp=>hps p (by simp [hp])) _
 ·rw [vT];conv=>lhs;rw [e0]
  exact (tilesAt_put l1 tiles hts _).2
 ·rw [vs];conv=>lhs;rw [e0,<- List.append_assoc]
  exact (bitsAt_put l2 on _).2
 ·have:=congrArg (List.take 4) eh
  rw [List.take_take] at this
  simpa [headB,two] using this
end Go.Proofs.YtmkiphadkmodnaaGreat
