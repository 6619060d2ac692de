/- BfM, 26 -/
import Derived.Laws.Entries
import Derived.Outline
import Derived.BigQuiet
import Derived.Deep.QuietTactic
import Derived.Test.YtmkiphadkmodnaaGreatZBfM7
import Derived.Test.YtmkiphadkmodnaaGreatZBfM1
import Derived.Test.YtmkiphadkmodnaaGreatZBfM2
import Derived.Test.YtmkiphadkmodnaaGreatZBfM0
set_option linter.all false
set_option maxRecDepth 100000
set_option maxHeartbeats 8000000
namespace Go.Proofs.YtmkiphadkmodnaaGreat
open Go.RowKit
structure BL where
 A:Option Addr
 c:Nat
 l:List Int
 t:Int
 ff:Bool
 it:Bool
def BL.cells (b:BL):List Value:=[.slice b.A b.l.length b.c,.int .i64 b.t,.bool b.ff,.bool b.it]
def blocks4 (l:List BL):List Value:=l.flatMap BL.cells
theorem blocks4_get:∀ (l:List BL) (k:Nat) (hk:k<l.length),
  (blocks4 l)[k*4]? = some (.slice l[k].A l[k].l.length l[k].c)∧(blocks4 l)[k*4+1]? = some (.int .i64 l[k].t)∧(blocks4 l)[k*4+2]? = some (.bool l[k].ff)∧(blocks4 l)[k*4+3]? = some (.bool l[k].it)
 | [],k,h=>by simp at h
 | t::l,0,_=>by simp [blocks4,BL.cells]
 | t::l,k+1,h=>by
  obtain ⟨h1,h2,h3,h4⟩:=blocks4_get l k (by simpa using h)
  have e:blocks4 (t::l)=t.cells++blocks4 l:=rfl
  rw [e,show (k+1)*4=k*4+4 by omega]
  have g:∀ j,(t.cells++blocks4 l)[k*4+4+j]? = (blocks4 l)[k*4+j]?:=fun j=>by
   rw [List.getElem?_append_right (by simp [BL.cells];omega)]
   congr 1
   simp [BL.cells]
   omega
  exact ⟨(g 0).trans h1,(g 1).trans h2,(g 2).trans h3,(g 3).trans h4⟩
theorem Rd.block {w : World} {A : Option Addr} {n c : Nat} {l : List BL} (h : Rd w 4 A n c (blocks4 l)) {k : Nat} (hk : k < l.length) :
    ∃ a, A = some a ∧ a.block < w.heap.size ∧ w.cell? (a.add (k * 4)) = some (.slice l[k].A l[k].l.length l[k].c) ∧ w.cell? ⟨(a.add (k * 4)).block, (a.add (k * 4)).off + 1, none⟩ = some (.int .i64 l[k].t) ∧
      w.cell? ⟨(a.add (k * 4)).block, (a.add (k * 4)).off + 2, none⟩ = some (.bool l[k].ff) ∧ w.cell? ⟨(a.add (k * 4)).block, (a.add (k * 4)).off + 3, none⟩ = some (.bool l[k].it) := by
  obtain ⟨g1, g2, g3, g4⟩ := blocks4_get l k hk
  obtain ⟨a, e, hb, h1⟩ := h.read _ _ g1
  obtain ⟨a2, e2, -, h2⟩ := h.read _ _ g2
  obtain ⟨a3, e3, -, h3⟩ := h.read _ _ g3
  obtain ⟨a4, e4, -, h4⟩ := h.read _ _ g4
  rw [e] at e2 e3 e4
  injection e2 with e2
  injection e3 with e3
  injection e4 with e4
  subst e2 e3 e4
  exact ⟨a, e, hb, h1, by rw [add_field a (k * 4) 1 (by omega)]; exact h2, by rw [add_field a (k * 4) 2 (by omega)]; exact h3, by rw [add_field a (k * 4) 3 (by omega)]; exact h4⟩
structure PK where
 I:Int
 AB:Option Addr
 cB:Nat
 bs:List BL
 AO:Option Addr
 cO:Nat
 outs:List Int
abbrev PK.cells (P:PK):Array Value:=#[.int .i64 P.I,.slice P.AB P.bs.length P.cB,.slice P.AO P.outs.length P.cO]
structure PK.In (P:PK) (w:World):Prop where
 blocks:Rd w 4 P.AB P.bs.length P.cB (blocks4 P.bs)
 each:∀ b ∈ P.bs,Rd w 1 b.A b.l.length b.c (ints b.l)
 outs:Rd w 1 P.AO P.outs.length P.cO (ints P.outs)
theorem PK.In.later {P:PK} {w w':World} (h:P.In w) (hb:Below w.heap.size w w'):P.In w':=⟨h.blocks.later hb,fun b hm=>(h.each b hm).later hb,h.outs.later hb⟩
structure PK.fit (P:PK):Prop where
 i:-9223372036854775808<=P.I∧P.I<=9223372036854775807
 n:P.bs.length<=100000000
 t:∀ b ∈ P.bs,-9223372036854775808<=b.t∧b.t<=9223372036854775807
 l:∀ b ∈ P.bs,b.l.length<=9223372036854775807
 o:P.outs.length<=100000000
def PK.N (P:PK):Int:=P.I+(P.bs.length:Int)
def badB (N x:Int):Bool:=decide (x<0)||decide (N<=x)
def BL.ok (N:Int) (b:BL):Prop:=b.l.length<=4∧b.l.any (badB N)=false∧(b.it=true->b.ff=true)∧0<=b.t∧b.t<2 ^ 2 ^ b.l.length
instance (N:Int) (b:BL):Decidable (b.ok N):=by unfold BL.ok;infer_instance
def PK.may (P:PK):Prop:=0<=P.I∧P.I<=1024∧P.bs.length<=1024∧(∀ b ∈ P.bs,b.ok P.N)∧P.outs.any (badB P.N)=false
instance (P:PK):Decidable P.may:=by unfold PK.may;infer_instance
theorem bad_no {N x:Int} (h:badB N x=false):0<=x∧x<N:=by
 simp only [badB,Bool.or_eq_false_iff,decide_eq_false_iff_not] at h;omega
theorem any_bad_no {N:Int} {l:List Int} (h:l.any (badB N)=false):∀ x ∈ l,0<=x∧x<N:=fun x hx=>bad_no (by
 rw [List.any_eq_false] at h;simpa using h x hx)
theorem bad_any (P:PK) (x:Int) (B:Nat) (w:World) (hi:0<=P.I∧P.I<=1024) (hn:P.bs.length<=1024) (h0:w.cell? ⟨B,0,none⟩=some (.int .i64 P.I)) (h1:w.cell? ⟨B,1,none⟩=some (.slice P.AB P.bs.length P.cB)) :
  Calls Tryz.prog 144 #[.int .i64 x,.pointer (some ⟨B,0,none⟩)] w fun e w'=>e=.returned (.bool (badB P.N x))∧w=w':=by
 obtain ⟨o,ho⟩:∃ o,badB P.N x=o:=⟨_,rfl⟩
 have HO:=hd_ ho
 rw [ho]
 clear ho
 obtain ⟨hi1,hi2⟩:=hi
 by_cases c1:x<0
 ·go_enter Tryz.func144,Tryz.ntmps144
  go_wp2_with fail
  go_ret
  exact ⟨by rw [<- HO.out];simp [badB,c1],rfl⟩
 ·by_cases c2:P.I+(P.bs.length:Int)<=x
  all_goals
   go_enter Tryz.func144,Tryz.ntmps144
   go_wp2_with fail
   go_ret
   refine ⟨?_,rfl⟩
   have e:badB P.N x=decide (P.I+(P.bs.length:Int)<=x):=by unfold badB PK.N;rw [decide_eq_false (show ¬ x<0 by omega)];rfl
   rw [<- HO.out,e]
   first|(rw [decide_eq_true c2];rfl)|(rw [decide_eq_false (by omega)];rfl)
def IndexB (N:Int) (l:List Int) (w:World) (e:Ending) (w':World):Prop:=∃ i:Int,e=.returned (.int .i64 i)∧(0<=i↔l.any (badB N)=true)∧w=w'
theorem index_bad (P:PK) (B:Nat) (w:World) (A:Option Addr) (n c:Nat) (l:List Int) (hr:Rd w 1 A n c (ints l)) (hn:n<=100000000) (hi:0<=P.I∧P.I<=1024) (hnb:P.bs.length<=1024)
  (h0:w.cell? ⟨B,0,none⟩=some (.int .i64 P.I)) (h1:w.cell? ⟨B,1,none⟩=some (.slice P.AB P.bs.length P.cB)) :
  Calls Tryz.prog 101 #[.slice A n c,.func (.func 144) #[] #[.pointer (some ⟨B,0,none⟩)]] w (IndexB P.N l w):=by
 have hl:n=l.length:=by have:=hr.len;rw [ints_length] at this;omega
 have HL:=hd_ hl
 have HR:=hd_ hr
 have H0:=hd_ h0
 have H1:=hd_ h1
 clear hl hr h0 h1
 go_enter Tryz.func101,Tryz.ntmps101
 go_wp2_with fail
 go_loop [8] (fun i=>∃ k:Nat,k<=n∧i=.int .i64 (k:Int)∧(l.take k).any (badB P.N)=false) (fun i=>n-(intOf i).toNat)
 case atStart=>exact ⟨0,by omega,rfl,by simp⟩
 case round =>
  obtain ⟨k,hk,rfl,hno⟩:=hrel
  have HN:=hd_ hno
  clear hno
  by_cases hlt:k<n
  ·obtain ⟨a,rfl,hab,c0⟩:=HR.out.int hlt
   have hk':k<l.length:=by rw [<- HL.out];exact hlt
   have hg:l.getD k 0=l[k]:=by rw [List.getD_eq_getElem?_getD,List.getElem?_eq_getElem hk'];rfl
   rw [hg] at c0
   have htk:(l.take (k+1)).any (badB P.N)=((l.take k).any (badB P.N)||badB P.N l[k]):=by
    rw [List.take_succ_eq_append_getElem hk',List.any_append];simp
   have hmem:badB P.N l[k]=true->l.any (badB P.N)=true:=fun hx=>List.any_eq_true.2 ⟨l[k],List.getElem_mem hk',hx⟩
   have HT:=hd_ htk
   have HM:=hd_ hmem
   clear htk hmem hg
   generalize l[k]=t at c0 HT HM
   go_wp2_with fail
   refine (bad_any P t B _ hi hnb H0.out H1.out).mono ?_
   rintro e w1 ⟨rfl,rfl⟩
   cases ho:badB P.N t with
   | true =>
    go_wp2_with fail
    go_ret
    exact ⟨(k:Int),rfl,⟨fun _=>HM.out ho,fun _=>by omega⟩,rfl⟩
   | false =>
    go_wp2_with fail
    go_round
    case rel=>exact ⟨k+1,by omega,by go_num,by rw [HT.out,HN.out,ho];rfl⟩
    case measure=>simp [intOf];omega
  ·obtain rfl:k=n:=by omega
   go_wp2_with fail
   go_ret
   refine ⟨-1,rfl,⟨fun h=>absurd h (by omega),fun h=>?_⟩,rfl⟩
   have:=HN.out
   rw [List.take_of_length_le (by rw [<- HL.out];exact Nat.le_refl _)] at this
   rw [this] at h
   cases h
theorem contains_bad (P:PK) (B:Nat) (w:World) (A:Option Addr) (n c:Nat) (l:List Int) (hr:Rd w 1 A n c (ints l)) (hn:n<=100000000) (hi:0<=P.I∧P.I<=1024) (hnb:P.bs.length<=1024)
  (h0:w.cell? ⟨B,0,none⟩=some (.int .i64 P.I)) (h1:w.cell? ⟨B,1,none⟩=some (.slice P.AB P.bs.length P.cB)) :
  Calls Tryz.prog 62 #[.slice A n c,.func (.func 144) #[] #[.pointer (some ⟨B,0,none⟩)]] w fun e w'=>e=.returned (.bool (l.any (badB P.N)))∧w=w':=by
 have HR:=hd_ hr
 have H0:=hd_ h0
 have H1:=hd_ h1
 clear hr h0 h1
 go_enter Tryz.func62,Tryz.ntmps62
 go_wp2_with fail
 refine (index_bad P B _ _ _ _ _ HR.out hn hi hnb H0.out H1.out).mono ?_
 rintro e w1 ⟨i,rfl,hx,rfl⟩
 have HI:=hd_ hx
 clear hx
 by_cases h0:0<=i
 ·go_wp2_with fail
  go_ret
  exact ⟨by rw [HI.out.1 h0];rfl,rfl⟩
 ·have hd:decide (0<=i)=false:=decide_eq_false h0
  go_wp2_with fail
  go_ret
  have:l.any (badB P.N)=false:=by cases ha:l.any (badB P.N) with
   | false=>rfl
   | true=>exact absurd (HI.out.2 ha) (by omega)
  exact ⟨by rw [this];rfl,rfl⟩
end Go.Proofs.YtmkiphadkmodnaaGreat
namespace Go.Proofs.YtmkiphadkmodnaaGreat
open Go.RowKit
def MAY (P:PK) (w:World) (R:Ending->World->Prop):Prop :=
 Calls Tryz.prog 131 #[.agg #[.int .i64 P.I,.slice P.AB P.bs.length P.cB,.slice P.AO P.outs.length P.cO]] w R
structure MW (w0 wx:World) (g:Nat) (P:PK):Prop where
 below:Below w0.heap.size w0 wx
 box:Box3 wx g (.int .i64 P.I) (.slice P.AB P.bs.length P.cB) (.slice P.AO P.outs.length P.cO)
theorem MW.keep {w0 wx wy:World} {g:Nat} {P:PK} (h:MW w0 wx g P) (hb:Below wx.heap.size wx wy):MW w0 wy g P:=⟨bt_ h.below hb,h.box.below hb⟩
theorem MW.new (w:World) (P:PK):MW w (w.alloc (.cells #[.int .i64 P.I,.slice P.AB P.bs.length P.cB,.slice P.AO P.outs.length P.cO] 27)) w.heap.size P:=⟨bn_ _ _,Box3.new w _ _ _ _⟩
theorem MW.cells {w0 wx:World} {g:Nat} {P:PK} (h:MW w0 wx g P):wx.cell? ⟨g,0,none⟩=some (.int .i64 P.I)∧wx.cell? ⟨g,1,none⟩=some (.slice P.AB P.bs.length P.cB)∧wx.cell? ⟨g,2,none⟩=some (.slice P.AO P.outs.length P.cO):=⟨h.box.c0,h.box.c1,h.box.c2⟩
def MayOut (P:PK) (w:World) (e:Ending) (w':World):Prop:=e=.returned (.bool (decide P.may))∧Below w.heap.size w w'
theorem MayOut.no {P:PK} {w w':World} (h:¬ P.may) (hb:Below w.heap.size w w'):MayOut P w (.returned (.bool false)) w':=⟨by rw [decide_eq_false h],hb⟩
theorem MayOut.yes {P:PK} {w w':World} (h:P.may) (hb:Below w.heap.size w w'):MayOut P w (.returned (.bool true)) w':=⟨by rw [decide_eq_true h],hb⟩
theorem may_head (P:PK) (w:World) (h:P.I<0∨(0<=P.I∧1024<P.I)∨((0<=P.I∧P.I<=1024)∧1024<(P.bs.length:Int))):MAY P w (MayOut P w):=by
 have hno:¬ P.may:=fun hm=>by obtain ⟨h1,h2,h3,-⟩:=hm;omega
 have HNO:=hd_ hno
 have T0:=hd_ (MW.new w P)
 clear hno
 unfold MAY
 rcases h with h|⟨h,h2⟩|⟨⟨h,h2⟩,h3⟩
 all_goals
  go_enter Tryz.func131,Tryz.ntmps131
  go_wp2_with fail
  go_ret
  exact MayOut.no HNO.out T0.out.below
theorem may_none (P:PK) (w:World) (hin:P.In w) (hf:P.fit) (hI:0<=P.I∧P.I<=1024) (hnb:P.bs.length<=1024) (hAB:P.AB=none):MAY P w (MayOut P w):=by
 have h2:¬ 1024<(P.bs.length:Int):=by omega
 have hI1:0<=P.I:=hI.1
 have hI2:P.I<=1024:=hI.2
 have HI:=hd_ hI
 have HIN:=hd_ hin
 have HF:=hd_ hf
 have T0:=hd_ (MW.new w P)
 clear hI hin hf
 unfold MAY
 obtain ⟨I,AB,cB,bs,AO,cO,outs⟩:=P
 simp only at hAB hnb h2 hI1 hI2
 subst hAB
 go_enter Tryz.func131,Tryz.ntmps131
 go_wp2_with fail
 go_loopw [24] (fun i wx=>∃ k:Nat,k<=bs.length∧i=.int .i64 (k:Int)∧MW w wx w.heap.size ⟨I,none,cB,bs,AO,cO,outs⟩∧∀ b ∈ bs.take k,b.ok (PK.N ⟨I,none,cB,bs,AO,cO,outs⟩)) (fun i _=>bs.length-(intOf i).toNat)
 case atStart=>exact ⟨0,by omega,rfl,T0.out,by simp⟩
 case round =>
  obtain ⟨k,hk,rfl,hT,hall⟩:=hrel
  have T1:=hd_ hT
  have HA:=hd_ hall
  clear hT hall T0
  by_cases hlt:k<bs.length
  case neg =>
   obtain rfl:k=bs.length:=by omega
   obtain ⟨k0,k1,k2⟩:=T1.out.cells
   simp only at k0 k1 k2
   have K0:=hd_ k0
   have K1:=hd_ k1
   have HO:=hd_ (HIN.out.outs.later T1.out.below)
   go_wp2_with fail
   refine (contains_bad ⟨I,none,cB,bs,AO,cO,outs⟩ w.heap.size _ _ _ _ outs HO.out (HF.out.o) HI.out hnb K0.out K1.out).mono ?_
   generalize hN:PK.N ⟨I,none,cB,bs,AO,cO,outs⟩=N
   rintro e w1 ⟨rfl,rfl⟩
   have HN:=hd_ hN
   clear hN
   cases ho:outs.any (badB N) with
   | true =>
    go_wp2_with fail
    go_ret
    exact MayOut.no (fun hm=>by have:=hm.2.2.2.2;rw [HN.out,ho] at this;cases this) T1.out.below
   | false =>
    go_wp2_with fail
    go_ret
    exact MayOut.yes ⟨HI.out.1,HI.out.2,hnb,fun b hb=>HA.out b (by rw [List.take_of_length_le (Nat.le_refl _)];exact hb),by rw [HN.out];exact ho⟩ T1.out.below
  exfalso
  obtain ⟨a,hA,-⟩:=HIN.out.blocks.block hlt
  cases hA
theorem may_some (P:PK) (w:World) (a:Addr) (hin:P.In w) (hf:P.fit) (hI:0<=P.I∧P.I<=1024) (hnb:P.bs.length<=1024) (hAB:P.AB=some a):MAY P w (MayOut P w):=by
 have h2:¬ 1024<(P.bs.length:Int):=by omega
 have hI1:0<=P.I:=hI.1
 have hI2:P.I<=1024:=hI.2
 have HI:=hd_ hI
 have HIN:=hd_ hin
 have HF:=hd_ hf
 have T0:=hd_ (MW.new w P)
 clear hI hin hf
 unfold MAY
 obtain ⟨I,AB,cB,bs,AO,cO,outs⟩:=P
 simp only at hAB hnb h2 hI1 hI2
 subst hAB
 go_enter Tryz.func131,Tryz.ntmps131
 go_wp2_with fail
 go_loopw [24] (fun i wx=>∃ k:Nat,k<=bs.length∧i=.int .i64 (k:Int)∧MW w wx w.heap.size ⟨I,(some a),cB,bs,AO,cO,outs⟩∧∀ b ∈ bs.take k,b.ok (PK.N ⟨I,(some a),cB,bs,AO,cO,outs⟩)) (fun i _=>bs.length-(intOf i).toNat)
 case atStart=>exact ⟨0,by omega,rfl,T0.out,by simp⟩
 case round =>
  obtain ⟨k,hk,rfl,hT,hall⟩:=hrel
  have T1:=hd_ hT
  have HA:=hd_ hall
  clear hT hall T0
  by_cases hlt:k<bs.length
  case neg =>
   obtain rfl:k=bs.length:=by omega
   obtain ⟨k0,k1,k2⟩:=T1.out.cells
   simp only at k0 k1 k2
   have K0:=hd_ k0
   have K1:=hd_ k1
   have HO:=hd_ (HIN.out.outs.later T1.out.below)
   go_wp2_with fail
   refine (contains_bad ⟨I,(some a),cB,bs,AO,cO,outs⟩ w.heap.size _ _ _ _ outs HO.out (HF.out.o) HI.out hnb K0.out K1.out).mono ?_
   generalize hN:PK.N ⟨I,(some a),cB,bs,AO,cO,outs⟩=N
   rintro e w1 ⟨rfl,rfl⟩
   have HN:=hd_ hN
   clear hN
   cases ho:outs.any (badB N) with
   | true =>
    go_wp2_with fail
    go_ret
    exact MayOut.no (fun hm=>by have:=hm.2.2.2.2;rw [HN.out,ho] at this;cases this) T1.out.below
   | false =>
    go_wp2_with fail
    go_ret
    exact MayOut.yes ⟨HI.out.1,HI.out.2,hnb,fun b hb=>HA.out b (by rw [List.take_of_length_le (Nat.le_refl _)];exact hb),by rw [HN.out];exact ho⟩ T1.out.below
  obtain ⟨a',hA,hab,c0,c1,c2,c3⟩:=(HIN.out.blocks.later T1.out.below).block hlt
  obtain rfl:=Option.some.inj hA
  have hmem:bs[k] ∈ bs:=List.getElem_mem hlt
  have hR:=hd_ ((HIN.out.each _ hmem).later T1.out.below)
  have hno:¬ (bs[k]).ok (PK.N ⟨I,some a,cB,bs,AO,cO,outs⟩)->¬ PK.may ⟨I,some a,cB,bs,AO,cO,outs⟩:=fun hb hm=>hb (hm.2.2.2.1 _ hmem)
  have hnext:(bs[k]).ok (PK.N ⟨I,some a,cB,bs,AO,cO,outs⟩)->∀ b ∈ bs.take (k+1),b.ok (PK.N ⟨I,some a,cB,bs,AO,cO,outs⟩):=fun hb b hm=>by
   rw [List.take_succ_eq_append_getElem hlt] at hm
   rcases List.mem_append.1 hm with h|h
   ·exact HA.out b h
   ·rw [List.mem_singleton.1 h];exact hb
  have hl8:=HF.out.l _ hmem
  have ht8:=HF.out.t _ hmem
  have HNO:=hd_ hno
  have HNX:=hd_ hnext
  clear hno hnext hmem hA
  obtain ⟨k0,k1,k2⟩:=T1.out.cells
  simp only at k0 k1 k2
  have K0:=hd_ k0
  have K1:=hd_ k1
  simp only at c0 c1 c2 c3 hR
  generalize bs[k]=b at c0 c1 c2 c3 hR HNO HNX hl8 ht8
  obtain ⟨bA,bc,bl,bt,bff,bit⟩:=b
  simp only at c0 c1 c2 c3 hR hl8 ht8
  obtain ⟨ht8,ht9⟩:=ht8
  have hbB:=bn_ wr (.cells #[.slice bA bl.length bc,.int .i64 bt,.bool bff,.bool bit] 62)
  have T2:=hd_ (T1.out.keep hbB)
  have R2:=hd_ (hR.out.later hbB)
  obtain ⟨m0,m1,m2⟩:=T2.out.cells
  have M0:=hd_ m0
  have M1:=hd_ m1
  clear m0 m1 m2 hbB
  by_cases q1:4<(bl.length:Int)
  ·have hb:=hd_ (HNO.out (fun h=>by have:=h.1;simp only at this;omega))
   go_wp2_with fail
   go_ret
   exact MayOut.no hb.out T2.out.below
  have hl4:bl.length<=4:=by omega
  by_cases q2:bl.any (badB (PK.N ⟨I,some a,cB,bs,AO,cO,outs⟩))=true
  ·have hb:=hd_ (HNO.out (fun h=>by have:=h.2.1;simp only at this;rw [q2] at this;cases this))
   have Q2:=hd_ q2
   clear q2
   go_wp2_with fail
   refine (contains_bad ⟨I,some a,cB,bs,AO,cO,outs⟩ w.heap.size _ _ _ _ bl R2.out (by omega) HI.out hnb M0.out M1.out).mono ?_
   rw [Q2.out]
   rintro e w1 ⟨rfl,rfl⟩
   go_wp2_with fail
   go_ret
   exact MayOut.no hb.out T2.out.below
  have q2':bl.any (badB (PK.N ⟨I,some a,cB,bs,AO,cO,outs⟩))=false:=by simpa using q2
  have Q2:=hd_ q2'
  clear q2 q2'
  by_cases q3:bit=true∧bff=false
  ·obtain ⟨rfl,rfl⟩:=q3
   have hb:=hd_ (HNO.out (fun h=>by have:=h.2.2.1 rfl;cases this))
   go_wp2_with fail
   refine (contains_bad ⟨I,some a,cB,bs,AO,cO,outs⟩ w.heap.size _ _ _ _ bl R2.out (by omega) HI.out hnb M0.out M1.out).mono ?_
   rw [Q2.out]
   rintro e w1 ⟨rfl,rfl⟩
   go_wp2_with fail
   go_ret
   exact MayOut.no hb.out T2.out.below
  have Q3:=hd_ (show bit=true->bff=true from fun h=>by cases hx:bff with
   | true=>rfl
   | false=>exact absurd ⟨h,hx⟩ q3)
  have q3':(bit&&!bff)=false:=by cases bit <;> cases bff <;> simp at q3 ⊢
  clear q3
  by_cases q4:bt<0
  ·have hb:=hd_ (HNO.out (fun h=>by have:=h.2.2.2.1;simp only at this;omega))
   have q4':decide (bt<0)=true:=decide_eq_true q4
   cases bit <;> cases bff <;> try (cases q3';done)
   all_goals
    go_wp2_with fail
    refine (contains_bad ⟨I,some a,cB,bs,AO,cO,outs⟩ w.heap.size _ _ _ _ bl R2.out (by omega) HI.out hnb M0.out M1.out).mono ?_
    rw [Q2.out]
    rintro e w1 ⟨rfl,rfl⟩
    go_wp2_with fail
    go_ret
    exact MayOut.no hb.out T2.out.below
  have q4':decide (bt<0)=false:=decide_eq_false q4
  have ht0:0<=bt:=by omega
  obtain ⟨n,hn⟩:∃ n,bl.length=n:=⟨_,rfl⟩
  obtain ⟨p,hD,hcs⟩:∃ p:Int,(2:Int) ^ 2 ^ n=p∧(n=0∧p=2∨n=1∧p=4∨n=2∧p=16∨n=3∧p=256∨n=4∧p=65536):=by
   rcases (show n=0∨n=1∨n=2∨n=3∨n=4 by omega) with rfl|rfl|rfl|rfl|rfl <;> exact ⟨_,rfl,by decide⟩
  have T3:=hd_ (MW.keep T1.out (bn_ wr (.cells #[.slice bA bl.length bc,.int .i64 bt,.bool bff,.bool bit] 62)))
  have R2:=hd_ (hR.out.later (bn_ wr (.cells #[.slice bA bl.length bc,.int .i64 bt,.bool bff,.bool bit] 62)))
  have HD:=hd_ hD
  have HL:=hd_ hn
  have hl0:n<=100000000:=by omega
  have hp:0<p:=by omega
  rw [hn] at c0 T3 R2
  clear hD M0 M1
  by_cases q5:bt<p
  ·have q5':(bt/p != 0)=false:=by simp [Int.ediv_eq_zero_of_lt ht0 q5]
   have hb:=hd_ (HNX.out ⟨hl4,Q2.out,Q3.out,ht0,by simp only;rw [HL.out,HD.out];exact q5⟩)
   clear q5 hn hl4
   rcases hcs with ⟨rfl,rfl⟩|⟨rfl,rfl⟩|⟨rfl,rfl⟩|⟨rfl,rfl⟩|⟨rfl,rfl⟩ <;> cases bit <;> cases bff <;> try (cases q3';done)
   all_goals
    have M0:=hd_ T3.out.cells.1
    have M1:=hd_ T3.out.cells.2.1
    go_wp2_with fail
    refine (contains_bad ⟨I,some a,cB,bs,AO,cO,outs⟩ w.heap.size _ _ _ _ bl R2.out (by omega) HI.out hnb M0.out M1.out).mono ?_
    rw [Q2.out]
    rintro e w1 ⟨rfl,rfl⟩
    go_wp2_with fail
    go_quiet (fail)
    go_wp2_with fail
    go_roundw
    case rel=>exact ⟨k+1,by omega,by go_num,T3.out.keep (below_drewN br_ _),hb.out⟩
    case measure=>simp [intOf];omega
  ·have q5':(bt/p != 0)=true:=by
    have h1:1<=bt/p:=by rw [Int.le_ediv_iff_mul_le hp];omega
    simp;omega
   have hb:=hd_ (HNO.out (fun h=>by have:=h.2.2.2.2;simp only at this;rw [HL.out,HD.out] at this;exact q5 this))
   clear q5 hn hl4
   rcases hcs with ⟨rfl,rfl⟩|⟨rfl,rfl⟩|⟨rfl,rfl⟩|⟨rfl,rfl⟩|⟨rfl,rfl⟩ <;> cases bit <;> cases bff <;> try (cases q3';done)
   all_goals
    have M0:=hd_ T3.out.cells.1
    have M1:=hd_ T3.out.cells.2.1
    go_wp2_with fail
    refine (contains_bad ⟨I,some a,cB,bs,AO,cO,outs⟩ w.heap.size _ _ _ _ bl R2.out (by omega) HI.out hnb M0.out M1.out).mono ?_
    rw [Q2.out]
    rintro e w1 ⟨rfl,rfl⟩
    go_wp2_with fail
    go_quiet (fail)
    go_wp2_with fail
    go_ret
    exact MayOut.no hb.out (T3.out.keep (below_drewN br_ _)).below
theorem may_any (P:PK) (w:World) (hin:P.In w) (hf:P.fit):MAY P w (MayOut P w):=by
 by_cases h0:P.I<0
 ·exact may_head P w (.inl h0)
 by_cases h1:1024<P.I
 ·exact may_head P w (.inr (.inl ⟨by omega,h1⟩))
 by_cases h2:1024<(P.bs.length:Int)
 ·exact may_head P w (.inr (.inr ⟨⟨by omega,by omega⟩,h2⟩))
 cases hA:P.AB with
 | none=>exact may_none P w hin hf (by omega) (by omega) hA
 | some a=>exact may_some P w a hin hf (by omega) (by omega) hA
end Go.Proofs.YtmkiphadkmodnaaGreat
