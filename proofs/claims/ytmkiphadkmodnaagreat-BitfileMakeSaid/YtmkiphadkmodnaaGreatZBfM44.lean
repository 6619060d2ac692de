/- BfM, 44 -/
import Derived.Test.YtmkiphadkmodnaaGreatZBfM43
import Derived.Test.YtmkiphadkmodnaaGreatZBfM0
set_option linter.all false
set_option maxRecDepth 100000
set_option maxHeartbeats 8000000
namespace Go.Proofs.YtmkiphadkmodnaaGreat
open Go.RowKit Go.Maps
theorem end_in {ws:List WM} {i:Nat} (hi:i<ws.length) {x:Int} (h:x=ws[i].1∨x ∈ ws[i].2.2.2):x ∈ (eAt ws[i].1 ws[i].2.2.2 ws[i].2.2.2.length).map (·.2):=by
 unfold eAt
 rw [List.take_length,List.map_cons]
 rcases h with h|h
 ·rw [h];exact List.mem_cons_self ..
 ·refine List.mem_cons_of_mem _ (List.mem_map.2 ⟨(2,x),List.mem_map.2 ⟨x,h,rfl⟩,rfl⟩)
theorem end_to {ws:List WM} {i:Nat} (hi:i<ws.length) {x:Int} (h:x=ws[i].1∨x ∈ ws[i].2.2.2):∀ (j:Nat),i<j->j<=ws.length->x ∈ (eTo ws j).map (·.2)
 | 0,h0,_=>by omega
 | j+1,h0,hj=>by
  rw [eTo_next (by omega),List.map_append]
  rcases Nat.lt_succ_iff_lt_or_eq.1 h0 with e|e
  ·exact List.mem_append.2 (.inl (end_to hi h j e (by omega)))
  ·subst e;exact List.mem_append.2 (.inr (end_in hi h))
theorem ends_lt {ws:List WM} {i j:Nat} (hij:i<j) (hj:j<ws.length) (hn:((endsT (wpl ws)).map (·.2)).Nodup) {x:Int} (hi:x=(ws[i]'(by omega)).1∨x ∈ (ws[i]'(by omega)).2.2.2) (hx:x=ws[j].1∨x ∈ ws[j].2.2.2):False:=by
 obtain ⟨r,hr⟩:=ends_split hj
 rw [hr,List.map_append,List.map_append,List.nodup_append] at hn
 exact hn.2.2 x (end_to (by omega) hi j hij (by omega)) x (List.mem_append.2 (.inl (end_in hj hx))) rfl
theorem ends_one {ws:List WM} {i j:Nat} (hi':i<ws.length) (hj:j<ws.length) (hn:((endsT (wpl ws)).map (·.2)).Nodup) {x:Int} (hi:x=ws[i].1∨x ∈ ws[i].2.2.2) (hx:x=ws[j].1∨x ∈ ws[j].2.2.2):i=j:=by
 rcases Nat.lt_trichotomy i j with h|h|h
 ·exact (ends_lt h hj hn hi hx).elim
 ·exact h
 ·exact (ends_lt h hi' hn hx hi).elim
theorem end_no_track {W H T kd n:Int} (hkd:kd=1∨kd=2) (h:endOk W H T kd n):(whK W H T n==4||whK W H T n==5)=false:=by
 rcases h.2 with e|e <;> rcases hkd with k|k <;> rw [e] <;> (try rw [k]) <;> rfl
def allE (es:List (Int × Int)) (ways:List (List Int)):List (Int × Int):=ways.flatMap (wayE es)
theorem allE_mem {es:List (Int × Int)} {ways:List (List Int)} {e:Int × Int}:e ∈ allE es ways↔∃ j,j<ways.length∧e ∈ wayE es (ways.getD j []):=by
 unfold allE
 rw [List.mem_flatMap]
 constructor
 ·rintro ⟨w,hw,he⟩
  obtain ⟨j,hj,rfl⟩:=List.getElem_of_mem hw
  exact ⟨j,hj,by rw [List.getD_eq_getElem?_getD,List.getElem?_eq_getElem hj];exact he⟩
 ·rintro ⟨j,hj,he⟩
  rw [List.getD_eq_getElem?_getD,List.getElem?_eq_getElem hj] at he
  exact ⟨_,List.getElem_mem hj,he⟩
theorem way_law {W H T:Int} {es:List (Int × Int)} {tr:List Bool} {ways:List (List Int)} {ws:List WM} (hlen:ways.length=ws.length) (hm:MayP W H T (wpl ws))
  (htr:∀ n:Int,isN W H T n->tr.getD n.toNat false=(whK W H T n==4||whK W H T n==5))
  (hA:ApartP (goodW tr (wpl ws)) (wTo es ways ways.length)) (hE:∀ i,i<ways.length->∀ s ∈ ways.getD i [],∃ a b:Nat,edge es s=((a:Int),(b:Int)))
  {i:Nat} (hi:i<ws.length) {f t:Nat} (hf:ws[i].1=(f:Int)) :
  Cn (allE es ways) (f:Int) (t:Int)↔Jn es (ways.getD i []) f t:=by
 have hiw:i<ways.length:=by rw [hlen];exact hi
 have htouch:∀ j,j<ways.length->∀ e ∈ wayE es (ways.getD j []),(j,e.1) ∈ wTo es ways ways.length∧(j,e.2) ∈ wTo es ways ways.length:=fun j hj e he=>by
  obtain ⟨s,hs,rfl⟩:=List.mem_map.1 he
  exact ⟨(wTo_mem _).2 ⟨hj,s,hs,.inl rfl⟩,(wTo_mem _).2 ⟨hj,s,hs,.inr rfl⟩⟩
 have hfj:∀ j,j<ways.length->(j,(f:Int)) ∈ wTo es ways ways.length->j=i:=fun j hj h=>by
  have hg:=hA.good_ h
  have hjw:j<ws.length:=by rw [<- hlen];exact hj
  unfold goodW at hg
  simp only at hg
  rw [wpl_get hjw] at hg
  have hok:endOk W H T 1 ws[i].1:=by
   obtain ⟨r,hr⟩:=ends_split hi
   have h2:=hm.2.1
   rw [hr] at h2
   exact h2 (1,ws[i].1) (by unfold eAt;simp)
  rcases hg with hg|hg
  ·rw [htr (f:Int) (by have:=(may_from hm hi).1;rw [hf] at this;exact this),<- hf,end_no_track (.inl rfl) hok] at hg
   cases hg
  ·exact ends_one hjw hi hm.2.2 (x:=(f:Int)) (hg.elim (fun h=>.inr h) (fun h=>.inl h.symm)) (.inl hf.symm)
 have key:∀ e ∈ allE es ways,∀ n,(n=e.1∨n=e.2)->((i,n) ∈ wTo es ways ways.length∨n=(f:Int))->e ∈ wayE es (ways.getD i []):=fun e he n hn ho=>by
  obtain ⟨j,hj,hej⟩:=allE_mem.1 he
  have ht:=htouch j hj e hej
  have htn:(j,n) ∈ wTo es ways ways.length:=by rcases hn with rfl|rfl;exact ht.1;exact ht.2
  have hji:j=i:=by
   rcases ho with ho|ho
   ·exact hA.one htn ho
   ·subst ho;exact hfj j hj htn
  subst hji
  exact hej
 refine class_way (N:=0) (hE i hiw) (own:=fun n=>(i,n) ∈ wTo es ways ways.length∨n=(f:Int)) (fun e he=>allE_mem.2 ⟨i,hiw,he⟩) (fun e he ho=>?_) (fun e he=>?_) (.inr rfl)
 ·rcases ho with ho|ho
  ·exact key e he e.1 (.inl rfl) ho
  ·exact key e he e.2 (.inr rfl) ho
 ·have:=htouch i hiw e he
  exact ⟨.inl this.1,.inl this.2⟩
theorem indexJ_any (F:FuncId) (hF:∀ (args:Array Value) (w:World),(callFunc F args).run Tryz.prog w=.ok (.enter F args) w) (cap c2:Value) (bad:Int->Bool) (w:World) (A:Option Addr) (n c:Nat) (l:List Int) (hr:Rd w 1 A n c (ints l)) (hn:n<=100000)
  (hcl:∀ x ∈ l,∀ W:World,Below w.heap.size w W->Calls Tryz.prog F #[.int .i64 x,cap,c2] W fun r w'=>r=.returned (.bool (bad x))∧Below W.heap.size W w') :
  Calls Tryz.prog 101 #[.slice A n c,.func (.func F) #[] #[cap,c2]] w (IndexA (l.any bad) w):=by
 have hl:n=l.length:=by have:=hr.len;rw [ints_length] at this;omega
 have HL:=hd_ hl
 have HR:=hd_ hr
 have HA:=hd_ hcl
 clear hl hr hcl
 go_enter Tryz.func101,Tryz.ntmps101
 go_wp2_with fail
 go_loopw [8] (fun i wx=>∃ k:Nat,k<=n∧i=.int .i64 (k:Int)∧(l.take k).any bad=false∧Below w.heap.size w wx) (fun i _=>n-(intOf i).toNat)
 case atStart=>exact ⟨0,by omega,rfl,by simp,br_⟩
 case round =>
  obtain ⟨k,hk,rfl,hno,hB⟩:=hrel
  have HN:=hd_ hno
  have B1:=hd_ hB
  clear hno hB
  by_cases hlt:k<n
  ·obtain ⟨a,rfl,hab,c0⟩:=(HR.out.later B1.out).int hlt
   have hk':k<l.length:=by rw [<- HL.out];exact hlt
   have hg:l.getD k 0=l[k]:=by rw [List.getD_eq_getElem?_getD,List.getElem?_eq_getElem hk'];rfl
   rw [hg] at c0
   have htk:(l.take (k+1)).any bad=((l.take k).any bad||bad l[k]):=by
    rw [List.take_succ_eq_append_getElem hk',List.any_append];simp
   have hmem:bad l[k]=true->l.any bad=true:=fun hx=>List.any_eq_true.2 ⟨l[k],List.getElem_mem hk',hx⟩
   have HCL:=hd_ (HA.out _ (List.getElem_mem hk') wr B1.out)
   have HT:=hd_ htk
   have HM:=hd_ hmem
   clear htk hmem hg
   generalize l[k]=t at c0 HT HM HCL
   go_wp2_with fail
   refine HCL.out.mono ?_
   rintro e w1 ⟨rfl,hb1⟩
   have B2:=hd_ (bt_ B1.out hb1)
   clear hb1 HCL
   cases ho:bad t with
   | true =>
    go_wp2_with fail
    go_ret
    exact ⟨(k:Int),rfl,⟨fun _=>HM.out ho,fun _=>by omega⟩,B2.out⟩
   | false =>
    go_wp2_with fail
    go_roundw
    case rel=>exact ⟨k+1,by omega,by go_num,by rw [HT.out,HN.out,ho];rfl,B2.out⟩
    case measure=>simp [intOf];omega
  ·obtain rfl:k=n:=by omega
   go_wp2_with fail
   go_ret
   refine ⟨-1,rfl,⟨fun h=>absurd h (by omega),fun h=>?_⟩,B1.out⟩
   have:=HN.out
   rw [List.take_of_length_le (by rw [<- HL.out];exact Nat.le_refl _)] at this
   rw [this] at h
   cases h
theorem containsJ_any (F:FuncId) (hF:∀ (args:Array Value) (w:World),(callFunc F args).run Tryz.prog w=.ok (.enter F args) w) (cap c2:Value) (bad:Int->Bool) (w:World) (A:Option Addr) (n c:Nat) (l:List Int) (hr:Rd w 1 A n c (ints l)) (hn:n<=100000)
  (hcl:∀ x ∈ l,∀ W:World,Below w.heap.size w W->Calls Tryz.prog F #[.int .i64 x,cap,c2] W fun r w'=>r=.returned (.bool (bad x))∧Below W.heap.size W w') :
  Calls Tryz.prog 62 #[.slice A n c,.func (.func F) #[] #[cap,c2]] w fun r w'=>r=.returned (.bool (l.any bad))∧Below w.heap.size w w':=by
 have HX:=hd_ (indexJ_any F hF cap c2 bad w A n c l hr hn hcl)
 obtain ⟨r,hr2⟩:∃ r,l.any bad=r:=⟨_,rfl⟩
 rw [hr2] at HX ⊢
 clear hr hcl hr2
 go_enter Tryz.func62,Tryz.ntmps62
 go_wp2_with fail
 refine HX.out.mono ?_
 rintro e w1 ⟨i,rfl,hx,hb1⟩
 have HI:=hd_ hx
 have B1:=hd_ hb1
 clear hx hb1
 by_cases h0:0<=i
 ·have hd:decide (0<=i)=true:=decide_eq_true h0
  have HR:=hd_ (HI.out.1 h0)
  go_wp2_with fail
  go_ret
  exact ⟨by rw [HR.out];rfl,B1.out⟩
 ·have hd:decide (0<=i)=false:=decide_eq_false h0
  have hr:r=false:=by cases r with
   | false=>rfl
   | true=>exact absurd (HI.out.2 rfl) h0
  have HR:=hd_ hr
  clear hr
  go_wp2_with fail
  go_ret
  exact ⟨by rw [HR.out];rfl,B1.out⟩
def byM (L:List (Nat × Int)):Int->Option Int:=fun n=>if lastT L n=0 then none else some (lastT L n-1)
theorem byM_nil:byM []=fun _=>none:=by funext n;unfold byM;rw [lastT_nil];rfl
theorem byM_next (L:List (Nat × Int)) (i:Nat) (m:Int):updI (byM L) m (i:Int)=byM (L++[(i,m)]):=by
 funext n
 unfold updI byM
 by_cases h:n=m
 ·subst h
  rw [lastT_next,if_pos rfl,if_pos rfl,if_neg (by omega)]
  congr 1;omega
 ·rw [lastT_next,if_neg h,if_neg (fun e:m=n=>h e.symm)]
theorem byM_none {L:List (Nat × Int)} {n:Int} (h:lastT L n=0):byM L n=none:=if_pos h
theorem byM_some {L:List (Nat × Int)} {n:Int} (h:lastT L n≠0):byM L n=some (lastT L n-1):=if_neg h
def eWo (es:List (Int × Int)) (ways:List (List Int)):Nat->List (Int × Int)
 | 0=>[]
 | i+1=>eWo es ways i++wayE es (ways.getD i [])
theorem eWo_take (es:List (Int × Int)) (ways:List (List Int)):∀ m,m<=ways.length->eWo es ways m=(ways.take m).flatMap (wayE es)
 | 0,_=>by simp [eWo]
 | m+1,h=>by
  rw [eWo,eWo_take es ways m (by omega),List.take_succ_eq_append_getElem (by omega),List.flatMap_append,List.getD_eq_getElem?_getD,List.getElem?_eq_getElem (by omega)]
  simp
theorem eWo_all (es:List (Int × Int)) (ways:List (List Int)):eWo es ways ways.length=allE es ways:=by
 rw [eWo_take es ways _ (Nat.le_refl _),List.take_length];rfl
def wSum (ways:List (List Int)):Nat:=(ways.map List.length).sum
theorem eWo_sum (es:List (Int × Int)) (ways:List (List Int)):∀ m,m<=ways.length->(eWo es ways m).length=((ways.take m).map List.length).sum
 | 0,_=>by simp [eWo]
 | m+1,h=>by
  rw [eWo,List.length_append,eWo_sum es ways m (by omega),List.take_succ_eq_append_getElem (by omega),List.map_append,List.sum_append,List.getD_eq_getElem?_getD,List.getElem?_eq_getElem (by omega)]
  simp [wayE]
theorem sum_take (l:List Nat) (m:Nat):(l.take m).sum<=l.sum:=by
 rw [<- List.take_append_drop m l,List.sum_append,List.take_append_drop];omega
theorem eWo_len {es:List (Int × Int)} {ways:List (List Int)} {m k:Nat} (hm:m<ways.length):(eWo es ways m++wayE es ((ways.getD m []).take k)).length<=wSum ways:=by
 have h1:=eWo_sum es ways (m+1) (by omega)
 rw [eWo,List.length_append] at h1
 have h2:=sum_take (ways.map List.length) (m+1)
 rw [<- List.map_take] at h2
 rw [List.length_append]
 have h3:(wayE es ((ways.getD m []).take k)).length<=(wayE es (ways.getD m [])).length:=by unfold wayE;rw [List.length_map,List.length_map,List.length_take];omega
 unfold wSum
 omega
theorem tch_len (es:List (Int × Int)) (i:Nat) (way:List Int):(tch es i way).length=2*(wayE es way).length:=by
 unfold tch wayE
 induction way with
 | nil=>rfl
 | cons x r ih=>rw [List.flatMap_cons,List.length_append,ih];simp [tch1];omega
theorem wTo_len (es:List (Int × Int)) (ways:List (List Int)):∀ m,(wTo es ways m).length=2*(eWo es ways m).length
 | 0=>rfl
 | m+1=>by rw [wTo,eWo,List.length_append,List.length_append,wTo_len es ways m,tch_len];omega
theorem wayE_next {es:List (Int × Int)} {k:Nat} {way:List Int} (hk:k<way.length):wayE es (way.take (k+1))=wayE es (way.take k)++[edge es (way.getD k 0)]:=by
 unfold wayE
 rw [List.take_succ_eq_append_getElem hk,List.map_append,List.getD_eq_getElem?_getD,List.getElem?_eq_getElem hk]
 rfl
structure ChkS (w6:World) (gm gr:Nat) (T:List (Nat × Int)) (E:List (Int × Int)) (wx:World):Prop where
 by_:∃ c1,c1<=T.length∧MapN wx gm c1 (byM T)
 rt:∃ c2 M2 R,c2<=E.length∧MapN wx gr c2 M2∧Forest M2 R∧RangeM M2∧Tells R E
 chg:Chg w6 wx fun k=>k=gm∨k=gr
 ne:gm≠gr
section
variable {w6 wx wy : World} {gm gr : Nat} {T : List (Nat × Int)} {E : List (Int × Int)}
theorem ChkS.keep (h:ChkS w6 gm gr T E wx) (hb:Below wx.heap.size wx wy):ChkS w6 gm gr T E wy:=by
 obtain ⟨c1,h1,h2⟩:=h.by_
 obtain ⟨c2,M2,R,h3,h4,h5⟩:=h.rt
 exact ⟨⟨c1,h1,MapV.below h2 hb⟩,⟨c2,M2,R,h3,MapV.below h4 hb,h5⟩,h.chg.belowB hb,h.ne⟩
theorem ChkS.get (h:ChkS w6 gm gr T E wx) {n:Int} (hn:-9223372036854775808<=n∧n<=9223372036854775807):(Instr.lookup 101 (.map (some gm)) (.int .i64 n) true).run Tryz.prog wx=.ok (.tuple #[.int .i64 ((byM T n).getD 0),.bool (byM T n).isSome]) wx:=by
 obtain ⟨c1,-,h2⟩:=h.by_
 exact MapN.get h2 hn
theorem ChkS.put (h:ChkS w6 gm gr T E wx) (hT:T.length<=100000000) (i:Nat) (hi:i<=1000000) {n:Int} (hn:-9223372036854775808<=n∧n<=9223372036854775807) :
  ∃ w',(Instr.mapUpdate 101 (.map (some gm)) (.int .i64 n) (.int .i64 (i:Int))).run Tryz.prog wx=.ok () w'∧ChkS w6 gm gr (T++[(i,n)]) E w':=by
 obtain ⟨c1,h1,h2⟩:=h.by_
 obtain ⟨c2,M2,R,h3,h4,h5⟩:=h.rt
 obtain ⟨w',hr,hm,hg⟩:=MapN.update h2 (by unfold maxLen;omega) n (i:Int) hn (by omega)
 rw [byM_next] at hm
 refine ⟨w',hr,⟨c1+1,by rw [List.length_append];simp;omega,hm⟩,⟨c2,M2,R,h3,MapV.keep h4 (hg.block gr h4.lt (fun e=>h.ne (Option.some.inj e).symm)),h5⟩,(h.chg.trans (Chg.of_grown hg)).mono' (fun k hk=>hk.elim id (fun e=>.inl (Option.some.inj e))),h.ne⟩
theorem ChkS.join (h:ChkS w6 gm gr T E wx) (hE:E.length<10000000) {m n:Int} (hm:-9223372036854775808<=m∧m<=9223372036854775807) (hn:-9223372036854775808<=n∧n<=9223372036854775807) :
  Calls Tryz.prog 61 #[.map (some gr),.int .i64 m,.int .i64 n] wx fun e w'=>e=.returned (.tuple #[])∧ChkS w6 gm gr T (E++[(m,n)]) w':=by
 obtain ⟨c1,h1,h2⟩:=h.by_
 obtain ⟨c2,M2,R,h3,h4,h5,h6,h7⟩:=h.rt
 refine (roots_join gr c2 M2 R m n wx h4 h5 h6 (by omega) hm hn).mono ?_
 rintro e w' ⟨rfl,c',M',a1,a2,a3,a4,a5⟩
 refine ⟨rfl,⟨c1,h1,MapV.keep h2 (a5.block gm h2.lt h.ne)⟩,⟨c',M',jnR R m n,by rw [List.length_append];simp;omega,a2,a3,a4,h7.join m n⟩,(h.chg.trans a5).mono' (fun k hk=>hk.elim id .inr),h.ne⟩
theorem ChkS.start {u:World} (hm:MapN u gm 0 (fun _=>none)) (hr:MapN u gr 0 (fun _=>none)) (hne:gm≠gr):ChkS u gm gr [] [] u :=
 ⟨⟨0,Nat.le_refl _,by rw [byM_nil];exact hm⟩,⟨0,_,id,Nat.le_refl _,hr,Forest.start,fun n v h=>(by cases h),Tells.start⟩,Chg.refl _ _,hne⟩
end
end Go.Proofs.YtmkiphadkmodnaaGreat
