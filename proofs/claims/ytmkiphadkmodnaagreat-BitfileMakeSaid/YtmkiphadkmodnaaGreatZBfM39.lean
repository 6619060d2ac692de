/- BfM, 39 -/
import Derived.Laws.MakeOwn
import Derived.Laws.EntriesVeiled
import Derived.Test.YtmkiphadkmodnaaGreatZBfM38
import Derived.Test.YtmkiphadkmodnaaGreatZBfM0
import Derived.Test.YtmkiphadkmodnaaGreatZBfM1
import Derived.Test.YtmkiphadkmodnaaGreatZBfM37
set_option linter.all false
set_option maxRecDepth 100000
set_option maxHeartbeats 8000000
namespace Go.Proofs.YtmkiphadkmodnaaGreat
open Go.RowKit
theorem wpList_make_eq {P:Program} (w:World) {ops:Array Oper} {rest:List Oper} {o:Oper} {a:Act} {Q:Exit->Act->World->Prop}
  (hg:o.guard=none) (l c:Operand) (t:TypeId) (hop:o.op=Op.makeSlice t l c) {L C v:Value} {w':World} (hl:a.eval l=L) (hc:a.eval c=C) (hr:(Instr.makeSlice t L C).run P w=.ok v w')
  (hK:wpList P ops Q rest (a.put o.dst v) w'):wpList P ops Q (o::rest) a w:=by
 refine wpList_plain hg fun K hK'=>?_
 unfold Oper.wp
 simp [execOp,hop,hl,hc,hr,Result.andThen]
 exact hK' _ _ hK
def noneW (N:Nat):List WM:=List.replicate N (0,none,0,[])
theorem noneW_cells (N:Nat):madeCells #[.int .i64 0,.slice none 0 0] (N*2)=(wcells (noneW N)).toArray:=by
 apply Array.ext
 ·rw [size_madeCells,List.size_toArray,wcells_len];simp [noneW]
 ·intro i h1 h2
  rw [size_madeCells] at h1
  have hl:i/2<(noneW N).length:=by simp [noneW];omega
  obtain ⟨g1,g2⟩:=wcells_get (noneW N) (i/2) hl
  have hx:(noneW N)[i/2]=(0,none,0,[]):=by simp [noneW]
  rw [hx] at g1 g2
  have e:(wcells (noneW N)).toArray[i]? = some ((wcells (noneW N)).toArray[i]):=by rw [Array.getElem?_eq_getElem h2]
  rw [List.getElem?_toArray] at e
  rcases Nat.mod_two_eq_zero_or_one i with h|h
  ·rw [show i/2*2=i by omega] at g1
   rw [g1] at e
   have:=Option.some.inj e
   rw [<- this]
   simp [madeCells,h]
  ·rw [show i/2*2+1=i by omega] at g2
   rw [g2] at e
   have:=Option.some.inj e
   rw [<- this]
   simp [madeCells,h,slv]
theorem wire_make (w:World) (N:Nat) (hN:N<=100000):(Instr.makeSlice 53 (.int .i64 (N:Int)) (.int .i64 (N:Int))).run Tryz.prog w=.ok (.slice (some ⟨w.heap.size,0,none⟩) N N) (w.alloc (.cells (wcells (noneW N)).toArray 87)):=by
 obtain ⟨i0,hi0,hz0,hz1,hz2⟩:=info_parts wire_info
 have h:=run_make (P:=Tryz.prog) w 53 87 i0 _ Tryz.underlying53 hi0 hz0 .i64 .i64 (N:Int) (N:Int) (by omega) (Int.le_refl _) (by rw [hz2];omega) (by omega)
 rw [h,hz1]
 simp only [Int.toNat_natCast]
 rw [show (Value.agg #[Value.int .i64 0,.slice none 0 0]).cells=#[.int .i64 0,.slice none 0 0] from rfl,noneW_cells]
structure PWR (N:Nat) (F:Nat->Int) (E:List (Int × Int)) (ws:List WM):Prop where
 pl:wpl ws=(List.range N).map fun (n:Nat)=>(F n,atW E (n:Int))
theorem PWR.len {N:Nat} {F:Nat->Int} {E:List (Int × Int)} {ws:List WM} (h:PWR N F E ws):ws.length=N:=by
 have:=congrArg List.length h.pl
 unfold wpl at this
 simpa using this
theorem PWR.get {N:Nat} {F:Nat->Int} {E:List (Int × Int)} {ws:List WM} (h:PWR N F E ws) {k:Nat} (hk:k<ws.length):(ws[k].1,ws[k].2.2.2)=(F k,atW E (k:Int)):=by
 have h1:=h.pl
 have hl:=h.len
 have h2:(wpl ws)[k]? = some (ws[k].1,ws[k].2.2.2):=by unfold wpl;rw [List.getElem?_map,List.getElem?_eq_getElem hk];rfl
 rw [h1,List.getElem?_map,List.getElem?_range (by omega)] at h2
 exact (Option.some.inj h2).symm
theorem PWR.start (N:Nat):PWR N (fun _=>0) [] (noneW N):=⟨by unfold wpl noneW;rw [List.map_replicate];symm;rw [List.eq_replicate_iff];exact ⟨by simp,fun x hx=>by obtain ⟨n,-,rfl⟩:=List.mem_map.1 hx;rfl⟩⟩
theorem PWR.set {N:Nat} {F G:Nat->Int} {E D:List (Int × Int)} {ws:List WM} (h:PWR N F E ws) {k:Nat} (hk:k<ws.length) (y:WM) (h1:y.1=G k) (h2:y.2.2.2=atW D (k:Int)) (h3:∀ n,n<N->n≠k->G n=F n∧atW D (n:Int)=atW E (n:Int)):PWR N G D (ws.set k y):=by
 refine ⟨?_⟩
 have hl:=h.len
 apply List.ext_getElem?
 intro n
 unfold wpl
 rw [List.getElem?_map,List.getElem?_set]
 by_cases hn:n<N
 ·rw [List.getElem?_map,List.getElem?_range hn]
  by_cases e:k=n
  ·subst e
   rw [if_pos rfl,if_pos hk]
   simp [h1,h2]
  ·rw [if_neg e]
   have hg:=h.get (k:=n) (by omega)
   rw [List.getElem?_eq_getElem (by omega)]
   obtain ⟨g1,g2⟩:=h3 n hn (fun h=>e h.symm)
   simp only [Option.map_some]
   rw [hg,g1,g2]
 ·rw [if_neg (by omega),List.getElem?_eq_none (show ws.length<=n by omega),List.getElem?_eq_none (by rw [List.length_map,List.length_range];omega)]
  rfl
theorem PWR.from_ {N:Nat} {F:Nat->Int} {E:List (Int × Int)} {ws:List WM} (h:PWR N F E ws) {k:Nat} (hk:k<ws.length) (v:Int):PWR N (fun n=>if n=k then v else F n) E (ws.set k (v,ws[k].2)) :=
 h.set hk _ (by simp) (congrArg Prod.snd (h.get hk)) (fun n _ hn=>⟨if_neg hn,rfl⟩)
theorem PWR.to_ {N:Nat} {F:Nat->Int} {E:List (Int × Int)} {ws:List WM} (h:PWR N F E ws) {k:Nat} (hk:k<ws.length) (A:Option Addr) (c:Nat) (v:Int):PWR N F (E++[((k:Int),v)]) (ws.set k (ws[k].1,A,c,ws[k].2.2.2++[v])):=by
 have hg:=h.get hk
 refine h.set hk _ (congrArg Prod.fst hg) ?_ (fun n _ hn=>⟨rfl,atW_no (by omega)⟩)
 show ws[k].2.2.2++[v]=_
 rw [atW_yes]
 have:=congrArg Prod.snd hg
 simp only at this
 rw [this]
theorem rd_of_pre {w:World} {g:Nat} {t:TypeId} {xs zs:List Value} (h:Blk w g t (xs++zs).toArray) (sz n c:Nat) (hn:xs.length=n*sz) (hc:n<=c):Rd w sz (some ⟨g,0,none⟩) n c xs:=by
 refine ⟨hn,hc,fun e=>(by cases e),fun j u hj=>⟨⟨g,0,none⟩,rfl,h.lt,?_⟩⟩
 have:=h.cell j
 rw [Addr.add_lit]
 have hl:j<xs.length:=(List.getElem?_eq_some_iff.1 hj).1
 rw [List.getElem?_toArray,List.getElem?_append_left hl,hj] at this
 simpa using this
theorem PWR.done {W H T:Int} {P:PK} {S:SPT} {N:Nat} {F:Nat->Int} {ws:List WM} (h:PWR N F (allEv W H T P S) ws) (hF:∀ n,n<N->F n=wFrom W H T P S n):wpl (fltW ws)=wireTo W H T P S N:=by
 rw [fltW_wpl,h.pl]
 unfold wireTo
 congr 1
 apply List.map_congr_left
 intro n hn
 rw [hF n (List.mem_range.1 hn)]
 rfl
end Go.Proofs.YtmkiphadkmodnaaGreat
namespace Go.Proofs.YtmkiphadkmodnaaGreat
open Go.RowKit Go.Maps
def endOk (W H T kd n:Int):Prop:=whE W H T n=0∧(whK W H T n=kd∨whK W H T n=3)
def OkE (W H T:Int) (l:List (Int × Int)):Prop:=(∀ e ∈ l,endOk W H T e.1 e.2)∧(l.map (·.2)).Nodup
theorem OkE.next {W H T:Int} {l:List (Int × Int)} (h:OkE W H T l) {kd n:Int} (h1:endOk W H T kd n) (h2:n ∉ l.map (·.2)):OkE W H T (l++[(kd,n)]):=by
 refine ⟨fun e he=>?_,?_⟩
 ·rcases List.mem_append.1 he with he|he
  ·exact h.1 e he
  ·rw [List.mem_singleton] at he;subst he;exact h1
 ·rw [List.map_append,List.nodup_append]
  exact ⟨h.2,by simp,fun a ha b hb=>by
   rw [List.map_singleton,List.mem_singleton] at hb
   subst hb
   exact fun e=>h2 (by rw [<- e];exact ha)⟩
theorem OkE.bad {W H T:Int} {l m:List (Int × Int)} {kd n:Int} (h:¬ (endOk W H T kd n∧n ∉ l.map (·.2))):¬ OkE W H T (l++(kd,n)::m):=by
 rintro ⟨h1,h2⟩
 apply h
 refine ⟨h1 (kd,n) (by simp),fun hm=>?_⟩
 rw [List.map_append,List.nodup_append] at h2
 exact h2.2.2 n hm n (by simp) rfl
def endsT (ws:List WP):List (Int × Int):=ws.flatMap fun v=>(1,v.1)::v.2.map fun n=>(2,n)
theorem endsT_app (a b:List WP):endsT (a++b)=endsT a++endsT b:=by unfold endsT;rw [List.flatMap_append]
def MayP (W H T:Int) (ws:List WP):Prop:=(∀ v ∈ ws,v.2≠[])∧OkE W H T (endsT ws)
noncomputable instance (W H T:Int) (ws:List WP):Decidable (MayP W H T ws):=Classical.propDecidable _
noncomputable instance (W H T kd n:Int) (L:List Int):Decidable (endOk W H T kd n∧n ∉ L):=Classical.propDecidable _
def FreshOut (d:Bool) (B cap:Nat) (L:List Int) (w:World) (e:Ending) (w':World):Prop:=e=.returned (.bool d)∧MapB w' B (cap+1) (memB L)∧Chg w w' (fun k=>k=B)
theorem fresh_bool {W H T kd n:Int} {L:List Int} {b1 b2 b3 b4:Bool} (h1:(whE W H T n==0)=b1) (h2:(whK W H T n==kd)=b2) (h3:(whK W H T n==3)=b3) (h4:decide (n ∈ L)=b4):decide (endOk W H T kd n∧n ∉ L)=(b1&&(b2||b3)&&!b4):=by
 subst h1 h2 h3 h4
 unfold endOk
 by_cases e1:whE W H T n=0 <;> by_cases e2:whK W H T n=kd <;> by_cases e3:whK W H T n=3 <;> by_cases e4:n ∈ L <;> simp [e1,e2,e3,e4] <;> (try (intro h;simp_all)) <;> simp_all
theorem fresh_any (W H T kd n:Int) (gA gm B cap:Nat) (L:List Int) (w:World) (a0:w.cell? ⟨gA,0,none⟩=some (.int .i64 W)) (a1:w.cell? ⟨gA,1,none⟩=some (.int .i64 H)) (a2:w.cell? ⟨gA,2,none⟩=some (.int .i64 T)) (m0:w.cell? ⟨gm,0,none⟩=some (.map (some B)))
  (hm:MapB w B cap (memB L)) (hc:cap<=1000000) (hn:-9223372036854775808<=n∧n<=9223372036854775807) :
  Calls Tryz.prog 98 #[.int .i64 n,.int .i64 kd,.pointer (some ⟨gA,0,none⟩),.pointer (some ⟨gm,0,none⟩)] w (FreshOut (decide (endOk W H T kd n∧n ∉ L)) B cap (L++[n]) w):=by
 have HM:=hd_ hm
 have HN:=hd_ hn
 have M0:=hd_ (World.block_lt_of_cell? w ⟨gm,0,none⟩ m0)
 obtain ⟨b1,hb1⟩:∃ b,(whE W H T n==0)=b:=⟨_,rfl⟩
 obtain ⟨b2,hb2⟩:∃ b,(whK W H T n==kd)=b:=⟨_,rfl⟩
 obtain ⟨b3,hb3⟩:∃ b,(whK W H T n==3)=b:=⟨_,rfl⟩
 obtain ⟨b4,hb4⟩:∃ b,decide (n ∈ L)=b:=⟨_,rfl⟩
 rw [fresh_bool hb1 hb2 hb3 hb4]
 have HB4:=hd_ hb4
 have HC:=hd_ (what_any W H T n w)
 generalize whE W H T n=e5 at HC hb1
 generalize whK W H T n=k5 at HC hb2 hb3
 clear hm hb4
 go_enter Tryz.func98,Tryz.ntmps98
 go_wp2_with fail
 refine HC.out.mono ?_
 rintro e w1 ⟨rfl,hw1⟩
 have B1:=hd_ hw1
 have MP1:=hd_ (show MapB w1 B cap (memB L) from MapV.below HM.out hw1)
 have m1:=(hw1.cell (p:=⟨gm,0,none⟩) M0.out).trans m0
 have hg:=MapB.get MP1.out (n:=n) HN.out
 rw [memB_get,HB4.out] at hg
 obtain ⟨w7,hu,hm7,hg7⟩:=MapB.update MP1.out (by unfold maxLen;omega) n true HN.out
 rw [<- memB_snoc] at hm7
 have HM7:=hd_ hm7
 have C7:=hd_ (show Chg w w7 (fun k=>k=B) from ((Chg.of_below hw1 _).trans (Chg.of_grown hg7)).mono' (fun k hk=>hk.elim id (fun h=>Option.some.inj h)))
 clear hm7 hg7 hw1 HC a0 a1 a2 m0
 cases b1 with
 | false =>
  go_wp2_with fail
  go_ret
  exact ⟨by simp,HM7.out,C7.out⟩
 | true =>
  cases b2 with
  | true =>
   cases b4 with
   | true =>
    go_wp2_with fail
    go_ret
    exact ⟨by simp,HM7.out,C7.out⟩
   | false =>
    go_wp2_with fail
    go_ret
    exact ⟨by simp,HM7.out,C7.out⟩
  | false =>
   cases b3 with
   | true =>
    cases b4 with
    | true =>
     go_wp2_with fail
     go_ret
     exact ⟨by simp,HM7.out,C7.out⟩
    | false =>
     go_wp2_with fail
     go_ret
     exact ⟨by simp,HM7.out,C7.out⟩
   | false =>
    go_wp2_with fail
    go_ret
    exact ⟨by simp,HM7.out,C7.out⟩
theorem Rd.two {w:World} {A:Option Addr} {n c k:Nat} {xs:List Value} {u v:Value} (h:Rd w 2 A n c xs) (h0:xs[k*2]? = some u) (h1:xs[k*2+1]? = some v) :
  ∃ a,A=some a∧a.block<w.heap.size∧w.cell? (a.add (k*2))=some u∧w.cell? ⟨(a.add (k*2)).block,(a.add (k*2)).off+1,none⟩=some v:=by
 obtain ⟨a,e,hb,c0⟩:=h.read _ _ h0
 obtain ⟨a2,e2,-,c1⟩:=h.read _ _ h1
 rw [e] at e2
 injection e2 with e2
 subst e2
 exact ⟨a,e,hb,c0,by rw [add_field a (k*2) 1 (by omega)];exact c1⟩
def eTo (ws:List WM) (i:Nat):List (Int × Int):=endsT (wpl (ws.take i))
def eAt (f:Int) (l:List Int) (k:Nat):List (Int × Int):=(1,f)::(l.take k).map fun n=>(2,n)
theorem eAt_next {f:Int} {l:List Int} {k:Nat} (hk:k<l.length):eAt f l (k+1)=eAt f l k++[(2,l.getD k 0)]:=by
 unfold eAt
 rw [List.take_succ_eq_append_getElem hk,List.map_append,List.getD_eq_getElem?_getD,List.getElem?_eq_getElem hk]
 rfl
theorem eTo_next {ws:List WM} {i:Nat} (hi:i<ws.length):eTo ws (i+1)=eTo ws i++eAt ws[i].1 ws[i].2.2.2 ws[i].2.2.2.length:=by
 unfold eTo
 rw [List.take_succ_eq_append_getElem hi]
 unfold wpl
 rw [List.map_append,endsT_app]
 unfold eAt
 rw [List.take_length]
 simp [endsT]
theorem ends_split {ws:List WM} {i:Nat} (hi:i<ws.length):∃ r,endsT (wpl ws)=eTo ws i++(eAt ws[i].1 ws[i].2.2.2 ws[i].2.2.2.length++r):=by
 refine ⟨endsT (wpl (ws.drop (i+1))),?_⟩
 rw [<- List.append_assoc,<- eTo_next hi]
 unfold eTo
 rw [<- endsT_app]
 unfold wpl
 rw [<- List.map_append,List.take_append_drop]
theorem eAt_split {f:Int} {l:List Int} {k:Nat} (hk:k<l.length):∃ r,eAt f l l.length=eAt f l k++(2,l.getD k 0)::r:=by
 refine ⟨(l.drop (k+1)).map fun n=>(2,n),?_⟩
 unfold eAt
 rw [List.take_length,List.getD_eq_getElem?_getD,List.getElem?_eq_getElem hk]
 simp only [Option.getD_some,List.cons_append,List.cons.injEq,true_and]
 rw [show ((2:Int),l[k])::(l.drop (k+1)).map (fun n=>((2:Int),n))=(l.drop k).map (fun n=>((2:Int),n)) by rw [List.drop_eq_getElem_cons hk];rfl,<- List.map_append,List.take_append_drop]
theorem eTo_len {ws:List WM} {i:Nat}:(eTo ws i).length<=(endsT (wpl ws)).length:=by
 have:endsT (wpl ws)=eTo ws i++endsT (wpl (ws.drop i)):=by
  unfold eTo
  rw [<- endsT_app]
  unfold wpl
  rw [<- List.map_append,List.take_append_drop]
 rw [this,List.length_append]
 omega
theorem no_empty {W H T:Int} {ws:List WM} {i:Nat} (hi:i<ws.length) (h:ws[i].2.2.2=[]):¬ MayP W H T (wpl ws):=fun hm=>hm.1 (ws[i].1,ws[i].2.2.2) (List.mem_map.2 ⟨ws[i],List.getElem_mem hi,rfl⟩) h
theorem no_from {W H T:Int} {ws:List WM} {i:Nat} (hi:i<ws.length) (h:¬ (endOk W H T 1 ws[i].1∧ws[i].1 ∉ (eTo ws i).map (·.2))):¬ MayP W H T (wpl ws):=fun hm=>by
 obtain ⟨r,hr⟩:=ends_split hi
 have h2:=hm.2
 rw [hr] at h2
 exact OkE.bad h h2
theorem no_to {W H T:Int} {ws:List WM} {i k:Nat} (hi:i<ws.length) (hk:k<ws[i].2.2.2.length) (h:¬ (endOk W H T 2 (ws[i].2.2.2.getD k 0)∧ws[i].2.2.2.getD k 0 ∉ (eTo ws i++eAt ws[i].1 ws[i].2.2.2 k).map (·.2))):¬ MayP W H T (wpl ws):=fun hm=>by
 obtain ⟨r,hr⟩:=ends_split hi
 obtain ⟨q,hq⟩:=eAt_split (f:=ws[i].1) hk
 have h2:=hm.2
 rw [hr,hq,show eTo ws i++(eAt ws[i].1 ws[i].2.2.2 k++(2,ws[i].2.2.2.getD k 0)::q++r)=(eTo ws i++eAt ws[i].1 ws[i].2.2.2 k)++(2,ws[i].2.2.2.getD k 0)::(q++r) by simp] at h2
 exact OkE.bad h h2
structure WsFit (ws:List WM):Prop where
 n:ws.length<=100000
 f:∀ x ∈ ws,-9223372036854775808<=x.1∧x.1<=9223372036854775807
 t:∀ x ∈ ws,∀ n ∈ x.2.2.2,-9223372036854775808<=n∧n<=9223372036854775807
 e:(endsT (wpl ws)).length<=100000
theorem WsFit.l {ws:List WM} (h:WsFit ws) {i:Nat} (hi:i<ws.length):ws[i].2.2.2.length<=100000:=by
 obtain ⟨r,hr⟩:=ends_split hi
 have:=h.e
 rw [hr,List.length_append,List.length_append] at this
 unfold eAt at this
 rw [List.length_cons,List.length_map,List.take_length] at this
 omega
theorem pmay_any (W H T:Int) (A:Option Addr) (c:Nat) (ws:List WM) (w:World) (hin:WsIn w A c ws) (hf:WsFit ws) :
  Calls Tryz.prog 58 #[.agg #[.int .i64 W,.int .i64 H,.int .i64 T],.slice A ws.length c] w fun e w'=>e=.returned (.bool (decide (MayP W H T (wpl ws))))∧Below w.heap.size w w':=by
 have HI:=hd_ hin
 have HF:=hd_ hf
 obtain ⟨n,hn⟩:∃ n,ws.length=n:=⟨_,rfl⟩
 have HN:=hd_ hn
 have hn3:n<=100000:=by rw [<- hn];exact hf.n
 obtain ⟨d,hd⟩:∃ d,decide (MayP W H T (wpl ws))=d:=⟨_,rfl⟩
 have HD:=hd_ hd
 rw [hn,hd]
 clear hin hf hn hd
 have hmm:=@run_makeMap Tryz.prog
 have hq0:=bt_ (bt_ (bn_ w (.cells #[.int .i64 W,.int .i64 H,.int .i64 T] 23)) (bn_ _ (.map #[] 0))) (bn_ _ (.cells #[.map (some (w.heap.size+1))] 137))
 have Q0:=hd_ hq0
 have X0:=hd_ (((Blk.made w 23 #[.int .i64 W,.int .i64 H,.int .i64 T]).alloc (.map #[] 0)).alloc (.cells #[.map (some (w.heap.size+1))] 137))
 have M0:=hd_ (show MapB (((w.alloc (.cells #[.int .i64 W,.int .i64 H,.int .i64 T] 23)).alloc (.map #[] 0)).alloc (.cells #[.map (some (w.heap.size+1))] 137)) (w.heap.size+1) 0 (memB []) from by
  have h:=MapV.below (MapV.made (lit:=Lit.bool) (e:=4) (w.alloc (.cells #[.int .i64 W,.int .i64 H,.int .i64 T] 23))) (bn_ _ (.cells #[.map (some (w.heap.size+1))] 137))
  rw [memB_nil]
  simpa using h)
 have G0:=hd_ (show Blk (((w.alloc (.cells #[.int .i64 W,.int .i64 H,.int .i64 T] 23)).alloc (.map #[] 0)).alloc (.cells #[.map (some (w.heap.size+1))] 137)) (w.heap.size+1+1) 137 #[.map (some (w.heap.size+1))] from by
  have h:=Blk.made ((w.alloc (.cells #[.int .i64 W,.int .i64 H,.int .i64 T] 23)).alloc (.map #[] 0)) 137 #[.map (some (w.heap.size+1))]
  simpa using h)
 clear hq0
 go_enter Tryz.func58,Tryz.ntmps58
 go_wp2_with fail
 clear hmm
 generalize ((w.alloc (.cells #[.int .i64 W,.int .i64 H,.int .i64 T] 23)).alloc (.map #[] 0)).alloc (.cells #[.map (some (w.heap.size+1))] 137)=w2 at Q0 X0 M0 G0 ⊢
 generalize hgm:w.heap.size+1+1=gm at G0 ⊢
 generalize hB:w.heap.size+1=B at M0 G0 ⊢
 have HB:=hd_ hB
 have hBw:w.heap.size<B:=by omega
 have hgmn:B<gm:=by omega
 have hB2:gm<w2.heap.size:=G0.out.lt
 have hX2:w.heap.size<w2.heap.size:=X0.out.lt
 clear hB hgm
 have HX:=hd_ (show ∀ W':World,Chg w2 W' (fun k=>k=B)->Blk W' w.heap.size 23 #[.int .i64 W,.int .i64 H,.int .i64 T] from fun W' hW=>hW.blk X0.out (by omega))
 have HG:=hd_ (show ∀ W':World,Chg w2 W' (fun k=>k=B)->Blk W' gm 137 #[.map (some B)] from fun W' hW=>hW.blk G0.out (by omega))
 have HQ:=hd_ (show ∀ W':World,Chg w2 W' (fun k=>k=B)->Below w.heap.size w W' from fun W' hW=>hW.below Q0.out Q0.out.size (fun k hk=>by omega))
 go_loopw [15] (fun v15 wx=>∃ i cap:Nat,i<=n∧v15=.int .i64 (i:Int)∧cap<=(eTo ws i).length∧MapB wx B cap (memB ((eTo ws i).map (·.2)))∧Chg w2 wx (fun k=>k=B)∧Hid (MayP W H T (wpl (ws.take i)))) (fun v15 _=>n-(intOf v15).toNat)
 case atStart=>exact ⟨0,0,by omega,rfl,by omega,M0.out,Chg.refl _ _,hd_ ⟨fun v hv=>(by cases hv),⟨fun e he=>(by cases he),List.nodup_nil⟩⟩⟩
 case round =>
  clear M0
  obtain ⟨i,cap,hi,rfl,hcap,hm,hc,HOK⟩:=hrel
  have MM:=hd_ hm
  have CC:=hd_ hc
  clear hm hc
  have hel:=@eTo_len ws i
  have hfe:=HF.out.e
  by_cases hin:i<n
  case neg =>
   obtain rfl:n=i:=by omega
   have hlt:¬ (n:Int)<(n:Int):=by omega
   have hz:=hd_ (show d=true by
    have h:=HOK.out
    rw [List.take_of_length_le (by rw [HN.out];exact Nat.le_refl _)] at h
    rw [<- HD.out];exact decide_eq_true h)
   go_wp2_with fail
   go_ret
   exact ⟨by rw [hz.out];rfl,HQ.out _ CC.out⟩
  have hin':(i:Int)<(n:Int):=by omega
  have hil:i<ws.length:=by rw [HN.out];exact hin
  obtain ⟨g0,g1⟩:=wcells_get ws i hil
  obtain ⟨pa,hPA,hpb,e0,e1⟩:=((HI.out.row).later (HQ.out _ CC.out)).two g0 g1
  obtain ⟨ga,hga⟩:∃ p,pa.add (i*2)=p:=⟨_,rfl⟩
  rw [hga] at e0 e1
  have hea:=HI.out.all _ (List.getElem_mem hil)
  have hll:=HF.out.l hil
  have hff:=HF.out.f _ (List.getElem_mem hil)
  have htt:=HF.out.t _ (List.getElem_mem hil)
  have HNE:=hd_ (show ws[i].2.2.2=[]->d=false from fun h=>by rw [<- HD.out];exact decide_eq_false (no_empty hil h))
  have HNF:=hd_ (show ¬ (endOk W H T 1 ws[i].1∧ws[i].1 ∉ (eTo ws i).map (·.2))->d=false from fun h=>by rw [<- HD.out];exact decide_eq_false (no_from hil h))
  have HNT:=hd_ (show ∀ k,k<ws[i].2.2.2.length->¬ (endOk W H T 2 (ws[i].2.2.2.getD k 0)∧ws[i].2.2.2.getD k 0 ∉ (eTo ws i++eAt ws[i].1 ws[i].2.2.2 k).map (·.2))->d=false from fun k hk h=>by rw [<- HD.out];exact decide_eq_false (no_to hil hk h))
  have HNX:=hd_ (eTo_next hil)
  have HTK:=hd_ (show ws[i].2.2.2≠[]->OkE W H T (eTo ws (i+1))->MayP W H T (wpl (ws.take (i+1))) from fun h1 h2=>⟨fun v hv=>by
   rw [List.take_succ_eq_append_getElem hil] at hv
   unfold wpl at hv
   rw [List.map_append] at hv
   rcases List.mem_append.1 hv with hv|hv
   ·exact HOK.out.1 v hv
   ·rw [List.map_singleton,List.mem_singleton] at hv;subst hv;exact h1,h2⟩)
  generalize ws[i]'hil=y at e0 e1 hea hll hff htt HNE HNF HNT HNX HTK
  obtain ⟨f,yA,yc,l⟩:=y
  simp only [slv] at e0 e1 hea hll hff htt HNE HNF HNT HNX HTK
  obtain ⟨q,hq⟩:∃ q,l.length=q:=⟨_,rfl⟩
  have HQL:=hd_ hq
  rw [hq] at e1 hll
  have HEA:=hd_ hea
  have HTT:=hd_ htt
  have TB:=hd_ (Blk.made wr 87 #[.int .i64 f,.slice yA q yc])
  have C4:=hd_ (CC.out.belowB (bn_ wr (.cells #[.int .i64 f,.slice yA q yc] 87)))
  have M4:=hd_ (show MapB (wr.alloc (.cells #[.int .i64 f,.slice yA q yc] 87)) B cap _ from MapV.below MM.out (bn_ wr _))
  have hBr:B<wr.heap.size:=MapV.lt MM.out
  rw [hPA]
  clear hPA hea hq htt
  go_upto_region 6 with (fail)
  clear e0 e1
  generalize wr.alloc (.cells #[.int .i64 f,.slice yA q yc] 87)=w4 at TB C4 M4 ⊢
  generalize wr.heap.size=gt at TB hBr ⊢
  have t0:=TB.out.cell 0
  have t1:=TB.out.cell 1
  by_cases h0:q=0
  ·have hz:=hd_ (HNE.out (List.length_eq_zero_iff.1 (by rw [HQL.out];exact h0)))
   have hd0:((q:Int)==0)=true:=by rw [h0];rfl
   clear h0
   go_wp2_with fail
   go_ret
   exact ⟨by rw [hz.out];rfl,HQ.out _ C4.out⟩
  have hd0:((q:Int)==0)=false:=by rw [beq_eq_false_iff_ne];omega
  have HQ0:=hd_ h0
  clear h0
  have hXw:=HX.out _ C4.out
  have hGw:=HG.out _ C4.out
  have HFR:=hd_ (fresh_any W H T 1 f w.heap.size gm B cap _ w4 (hXw.cell 0) (hXw.cell 1) (hXw.cell 2) (hGw.cell 0) M4.out (by omega) hff)
  obtain ⟨b,hb⟩:∃ b,decide (endOk W H T 1 f∧f ∉ (eTo ws i).map (·.2))=b:=⟨_,rfl⟩
  rw [hb] at HFR
  have HBB:=hd_ hb
  clear hb hXw hGw hff
  go_wp2_with fail
  refine HFR.out.mono ?_
  rintro e w5 ⟨rfl,hm5,hc5⟩
  have C5:=hd_ ((C4.out.trans hc5).mono' (Y:=fun k=>k=B) (fun k hk=>hk.elim id id))
  have M5:=hd_ (show MapB w5 B (cap+1) (memB ((eTo ws i++eAt f l 0).map (·.2))) from by
   rw [List.map_append];exact hm5)
  have T5:=hd_ (hc5.blk TB.out (by omega))
  clear hm5 hc5 HFR t0 t1
  cases b with
  | false =>
   have hz:=hd_ (HNF.out (of_decide_eq_false HBB.out))
   go_wp2_with fail
   go_ret
   exact ⟨by rw [hz.out];rfl,HQ.out _ C5.out⟩
  | true =>
   have O5:=hd_ (show OkE W H T (eTo ws i++eAt f l 0) from by
    have h:=of_decide_eq_true HBB.out
    exact OkE.next HOK.out.2 h.1 h.2)
   have t1:=T5.out.cell 1
   go_wp2_with fail
   clear t1
   go_loopw [33] (fun v33 wx=>∃ k cp:Nat,k<=q∧v33=.int .i64 (k:Int)∧cp<=cap+1+k∧MapB wx B cp (memB ((eTo ws i++eAt f l k).map (·.2)))∧Chg w2 wx (fun k=>k=B)∧Hid (OkE W H T (eTo ws i++eAt f l k))) (fun v33 _=>q-(intOf v33).toNat)
   case atStart=>exact ⟨0,cap+1,by omega,rfl,by omega,M5.out,C5.out,O5⟩
   case round =>
    clear M5 C5 O5 T5 MM CC C4 M4 TB
    obtain ⟨k,cp,hk,rfl,hcp,hm,hc,HO⟩:=hrel
    have MM:=hd_ hm
    have CC:=hd_ hc
    clear hm hc
    by_cases hkq:k<q
    case neg =>
     obtain rfl:q=k:=by omega
     have hlt:¬ (q:Int)<(q:Int):=by omega
     have HLE:=hd_ (show eTo ws i++eAt f l q=eTo ws (i+1) by rw [HNX.out,HQL.out])
     have HCL:=hd_ (show cp<=(eTo ws (i+1)).length from by
      rw [<- HLE.out,List.length_append]
      have:(eAt f l q).length=1+q:=by unfold eAt;rw [List.length_cons,List.length_map,List.length_take,HQL.out,Nat.min_self];omega
      omega)
     go_wp2_with fail
     go_roundw
     case rel=>exact ⟨i+1,cp,by omega,by go_num,HCL.out,by rw [<- HLE.out];exact MM.out,CC.out,hd_ (HTK.out (fun e=>HQ0.out (by rw [<- HQL.out,e];rfl)) (by rw [<- HLE.out];exact HO.out))⟩
     case measure=>simp [intOf];omega
    have hkq':(k:Int)<(q:Int):=by omega
    have hkl:k<l.length:=by rw [HQL.out];exact hkq
    obtain ⟨pe,hPE,hpeb,e0⟩:=(HEA.out.later (HQ.out _ CC.out)).int (k:=k) (by rw [HQL.out];exact hkq)
    have hxn:=HTT.out (l.getD k 0) (by rw [List.getD_eq_getElem?_getD,List.getElem?_eq_getElem hkl];exact List.getElem_mem hkl)
    have HNK:=hd_ (HNT.out k hkl)
    have HNXK:=hd_ (eAt_next (f:=f) hkl)
    generalize l.getD k 0=x at e0 hxn HNK HNXK
    have hXw:=HX.out _ CC.out
    have hGw:=HG.out _ CC.out
    have HFR:=hd_ (fresh_any W H T 2 x w.heap.size gm B cp _ wr (hXw.cell 0) (hXw.cell 1) (hXw.cell 2) (hGw.cell 0) MM.out (by omega) hxn)
    obtain ⟨b,hb⟩:∃ b,decide (endOk W H T 2 x∧x ∉ (eTo ws i++eAt f l k).map (·.2))=b:=⟨_,rfl⟩
    rw [hb] at HFR
    have HBK:=hd_ hb
    rw [hPE]
    clear hb hXw hGw hxn hPE hkl
    go_wp2_with fail
    refine HFR.out.mono ?_
    rintro e w5 ⟨rfl,hm5,hc5⟩
    have C5:=hd_ ((CC.out.trans hc5).mono' (Y:=fun k=>k=B) (fun k hk=>hk.elim id id))
    have M5:=hd_ (show MapB w5 B (cp+1) (memB ((eTo ws i++eAt f l (k+1)).map (·.2))) from by
     rw [HNXK.out,<- List.append_assoc,List.map_append];exact hm5)
    clear hm5 hc5 HFR e0
    cases b with
    | false =>
     have hz:=hd_ (HNK.out (of_decide_eq_false HBK.out))
     go_wp2_with fail
     go_ret
     exact ⟨by rw [hz.out];rfl,HQ.out _ C5.out⟩
    | true =>
     have O5:=hd_ (show OkE W H T (eTo ws i++eAt f l (k+1)) from by
      have h:=of_decide_eq_true HBK.out
      rw [HNXK.out,<- List.append_assoc]
      exact OkE.next HO.out h.1 h.2)
     go_wp2_with fail
     go_roundw
     case rel=>exact ⟨k+1,cp+1,by omega,by go_num,by omega,M5.out,C5.out,O5⟩
     case measure=>simp [intOf];omega
theorem nodeN_rng (W H T:Int) {k:Nat} (hk:k<5) (x y t:Int):0<=nodeN W H T k x y t∧nodeN W H T k x y t<=87040:=by
 unfold nodeN
 by_cases h:okA W H T∧inG W H T k x y t
 ·rw [if_pos h]
  have h1:=(nodeAt_what h.1 hk h.2).1
  have h2:=(nodes_bd h.1).2
  exact ⟨h1.2.1,by have:=h1.2.2;omega⟩
 ·rw [if_neg h];omega
theorem wFrom_rng (W H T:Int) (P:PK) (S:SPT) (n:Nat):0<=wFrom W H T P S n∧wFrom W H T P S n<=87040:=by
 unfold wFrom
 by_cases h:(n:Int)<P.I
 ·rw [if_pos h];exact nodeN_rng W H T (by omega) _ _ _
 ·rw [if_neg h];exact nodeN_rng W H T (by omega) _ _ _
theorem evTo_rng (W H T:Int) (P:PK) (S:SPT):∀ i,∀ e ∈ evTo W H T P S i,0<=e.2∧e.2<=87040
 | 0,e,h=>by simp [evTo] at h
 | i+1,e,h=>by
  rw [evTo] at h
  rcases List.mem_append.1 h with h|h
  ·exact evTo_rng W H T P S i e h
  ·unfold evIn at h
   obtain ⟨j,-,rfl⟩:=List.mem_map.1 h
   exact nodeN_rng W H T (by omega) _ _ _
theorem allEv_rng (W H T:Int) (P:PK) (S:SPT):∀ e ∈ allEv W H T P S,0<=e.2∧e.2<=87040:=fun e h=>by
 unfold allEv at h
 rcases List.mem_append.1 h with h|h
 ·exact evTo_rng W H T P S _ e h
 ·unfold evOut at h
  obtain ⟨j,-,rfl⟩:=List.mem_map.1 h
  exact nodeN_rng W H T (by omega) _ _ _
theorem atW_rng {E:List (Int × Int)} (h:∀ e ∈ E,0<=e.2∧e.2<=87040) (n:Int):∀ x ∈ atW E n,0<=x∧x<=87040:=fun x hx=>by
 unfold atW at hx
 obtain ⟨e,he,rfl⟩:=List.mem_map.1 hx
 exact h e (List.mem_filter.1 he).1
def cntE (E:List (Int × Int)) (n:Nat):Nat:=E.countP fun e=>decide (0<=e.1∧e.1<(n:Int))
theorem cntE_next (E:List (Int × Int)) (n:Nat):cntE E (n+1)=cntE E n+(atW E (n:Int)).length:=by
 unfold cntE atW
 rw [List.length_map]
 induction E with
 | nil=>rfl
 | cons e E ih =>
  rw [List.countP_cons,List.countP_cons,ih,List.filter_cons]
  by_cases h:e.1=(n:Int)
  ·have h1:(decide (0<=e.1∧e.1<((n+1:Nat):Int)))=true:=by rw [decide_eq_true_iff];omega
   have h2:(decide (0<=e.1∧e.1<(n:Int)))=false:=by rw [decide_eq_false_iff_not];omega
   have h3:(e.1==(n:Int))=true:=by rw [h];exact beq_self_eq_true _
   rw [h1,h2,if_pos h3]
   simp
   omega
  ·have h3:¬ (e.1==(n:Int))=true:=by rw [beq_iff_eq];exact h
   have h4:decide (0<=e.1∧e.1<((n+1:Nat):Int))=decide (0<=e.1∧e.1<(n:Int)):=by
    by_cases h5:0<=e.1∧e.1<(n:Int)
    ·rw [decide_eq_true h5,decide_eq_true_iff];omega
    ·rw [decide_eq_false h5,decide_eq_false_iff_not];omega
   rw [h4,if_neg h3]
   omega
theorem cntE_le (E:List (Int × Int)) (n:Nat):cntE E n<=E.length:=List.countP_le_length
theorem ends_cnt (W H T:Int) (P:PK) (S:SPT):∀ n,(endsT (wireTo W H T P S n)).length<=2*cntE (allEv W H T P S) n
 | 0=>by simp [wireTo,endsT]
 | n+1=>by
  have ih:=ends_cnt W H T P S n
  rw [cntE_next]
  by_cases h:(wAt W H T P S n).2=[]
  ·rw [wireTo_no h];omega
  ·rw [wireTo_yes h,endsT_app,List.length_append]
   have h1:(endsT [wAt W H T P S n]).length=1+(wAt W H T P S n).2.length:=by unfold endsT;simp;omega
   have h2:(wAt W H T P S n).2.length≠0:=fun e=>h (List.length_eq_zero_iff.1 e)
   have h3:(wAt W H T P S n).2=atW (allEv W H T P S) (n:Int):=rfl
   rw [h1]
   rw [h3] at h2 ⊢
   omega
theorem allEv_len (W H T:Int) {P:PK} (S:SPT) (h:∀ b ∈ P.bs,b.l.length<=4):(allEv W H T P S).length<=4*P.bs.length+P.outs.length:=by
 have h1:=evTo_len W H T S h P.bs.length
 unfold allEv
 rw [List.length_append,evOut_len]
 omega
theorem wireTo_mem {W H T:Int} {P:PK} {S:SPT} {m:Nat} {x:WP} (h:x ∈ wireTo W H T P S m):∃ n,x=wAt W H T P S n:=by
 unfold wireTo at h
 obtain ⟨n,-,rfl⟩:=List.mem_map.1 (List.mem_filter.1 h).1
 exact ⟨n,rfl⟩
theorem wires_fit {W H T:Int} {P:PK} {S:SPT} {ws:List WM} (hm:P.may) (ho:P.outs.length<=10000) (h:wpl ws=wiresP W H T P S):WsFit ws:=by
 have hl:(wiresP W H T P S).length<=P.I.toNat+P.bs.length:=by
  unfold wiresP wireTo
  refine Nat.le_trans (List.length_filter_le _ _) ?_
  rw [List.length_map,List.length_range]
  exact Nat.le_refl _
 have hw:ws.length=(wiresP W H T P S).length:=by rw [<- h];unfold wpl;rw [List.length_map]
 have h1:=hm.1
 have h2:=hm.2.1
 have h3:=hm.2.2.1
 have key:∀ x ∈ ws,∃ n,(x.1,x.2.2.2)=wAt W H T P S n:=fun x hx=>by
  have:(x.1,x.2.2.2) ∈ wpl ws:=List.mem_map.2 ⟨x,hx,rfl⟩
  rw [h] at this
  exact wireTo_mem this
 refine ⟨by omega,fun x hx=>?_,fun x hx n hn=>?_,?_⟩
 ·obtain ⟨n,e⟩:=key x hx
  have e1:x.1=wFrom W H T P S n:=congrArg Prod.fst e
  have:=wFrom_rng W H T P S n
  omega
 ·obtain ⟨m,e⟩:=key x hx
  have e1:x.2.2.2=atW (allEv W H T P S) (m:Int):=congrArg Prod.snd e
  rw [e1] at hn
  have:=atW_rng (allEv_rng W H T P S) _ n hn
  omega
 ·rw [h]
  have e1:=ends_cnt W H T P S (P.I.toNat+P.bs.length)
  have e2:=cntE_le (allEv W H T P S) (P.I.toNat+P.bs.length)
  have e3:=allEv_len W H T S (P:=P) (fun b hb=>(hm.2.2.2.1 b hb).1)
  unfold wiresP
  omega
def lastI (l:List Int) (i:Nat):Int:=if i=0 then -1 else l.getD (i-1) 0
theorem lastI_next (l:List Int) (i:Nat):lastI l (i+1)=l.getD i 0:=by unfold lastI;rw [if_neg (by omega),Nat.add_sub_cancel]
theorem badB_any {E:Int} {l:List Int}:l.any (badB E)=false↔∀ k,k<l.length->0<=l.getD k 0∧l.getD k 0<E:=by
 rw [List.any_eq_false]
 constructor
 ·intro h k hk
  have:=h (l.getD k 0) (by rw [List.getD_eq_getElem?_getD,List.getElem?_eq_getElem hk];exact List.getElem_mem hk)
  simp only [badB,List.getD_eq_getElem?_getD] at this ⊢
  simp at this
  omega
 ·intro h x hx
  obtain ⟨k,hk,rfl⟩:=List.getElem_of_mem hx
  have:=h k hk
  rw [List.getD_eq_getElem?_getD,List.getElem?_eq_getElem hk] at this
  simp only [Option.getD_some] at this
  simp [badB]
  omega
theorem rise_iff {E:Int} {l:List Int}:RiseP E l↔∀ k,k<l.length->lastI l k<l.getD k 0∧l.getD k 0<E:=by
 unfold RiseP
 rw [badB_any]
 constructor
 ·rintro ⟨h1,h2⟩ k hk
  refine ⟨?_,(h1 k hk).2⟩
  cases k with
  | zero=>have:=(h1 0 hk).1;unfold lastI;rw [if_pos rfl];omega
  | succ k=>rw [lastI_next];exact h2 k hk
 ·intro h
  have h0:∀ k,k<l.length->0<=l.getD k 0:=by
   intro k
   induction k with
   | zero=>intro hk;have:=(h 0 hk).1;unfold lastI at this;rw [if_pos rfl] at this;omega
   | succ k ih=>intro hk;have:=(h (k+1) hk).1;rw [lastI_next] at this;have:=ih (by omega);omega
  exact ⟨fun k hk=>⟨h0 k hk,(h k hk).2⟩,fun k hk=>by have:=(h (k+1) hk).1;rw [lastI_next] at this;exact this⟩
theorem rrising_any (E:Int) (A:Option Addr) (n c:Nat) (l:List Int) (w:World) (hr:Rd w 1 A n c (ints l)) (hn:n<=10000000) :
  Calls Tryz.prog 86 #[.slice A n c,.int .i64 E] w fun r w'=>r=.returned (.bool (decide (RiseP E l)))∧Below w.heap.size w w':=by
 have hl:n=l.length:=by have:=hr.len;rw [ints_length] at this;omega
 have HL:=hd_ hl
 have HR:=hd_ hr
 obtain ⟨d,hd⟩:∃ d,decide (RiseP E l)=d:=⟨_,rfl⟩
 have HD:=hd_ hd
 rw [hd]
 clear hl hr hd
 go_enter Tryz.func86,Tryz.ntmps86
 go_wp2_with fail
 go_loopw [6,5] (fun v6 v5 wx=>∃ i:Nat,i<=n∧v6=.int .i64 (i:Int)∧v5=.int .i64 (lastI l i)∧Below w.heap.size w wx∧Hid (∀ k,k<i->lastI l k<l.getD k 0∧l.getD k 0<E)) (fun v6 _ _=>n-(intOf v6).toNat)
 case atStart=>exact ⟨0,by omega,rfl,rfl,br_,hd_ (fun k hk=>by omega)⟩
 case round =>
  obtain ⟨i,hi,rfl,rfl,hB,HO⟩:=hrel
  have B1:=hd_ hB
  clear hB
  by_cases hin:i<n
  case neg =>
   obtain rfl:n=i:=by omega
   have hlt:¬ (n:Int)<(n:Int):=by omega
   have hz:=hd_ (show d=true by rw [<- HD.out];exact decide_eq_true (rise_iff.2 (fun k hk=>HO.out k (by rw [HL.out];exact hk))))
   go_wp2_with fail
   go_ret
   exact ⟨by rw [hz.out];rfl,B1.out⟩
  have hin':(i:Int)<(n:Int):=by omega
  obtain ⟨a,hA,hab,e0⟩:=(HR.out.later B1.out).int (k:=i) hin
  have HBAD:=hd_ (show ¬ (lastI l i<l.getD i 0∧l.getD i 0<E)->d=false from fun h=>by rw [<- HD.out];exact decide_eq_false (fun hs=>h (rise_iff.1 hs i (by rw [<- HL.out];exact hin))))
  have HGO:=hd_ (show lastI l i<l.getD i 0∧l.getD i 0<E->∀ k,k<i+1->lastI l k<l.getD k 0∧l.getD k 0<E from fun h k hk=>by
   rcases Nat.lt_succ_iff_lt_or_eq.1 hk with e|rfl
   ·exact HO.out k e
   ·exact h)
  have HNX:=hd_ (lastI_next l i)
  rw [hA]
  clear hA
  generalize l.getD i 0=x at e0 HBAD HGO HNX
  generalize lastI l i=y at HBAD HGO ⊢
  by_cases c1:x<=y
  ·have hz:=hd_ (HBAD.out (fun h=>by omega))
   go_wp2_with fail
   go_ret
   exact ⟨by rw [hz.out];rfl,B1.out⟩
  by_cases c2:E<=x
  ·have hz:=hd_ (HBAD.out (fun h=>by omega))
   go_wp2_with fail
   go_ret
   exact ⟨by rw [hz.out];rfl,B1.out⟩
  have HG:=hd_ (HGO.out ⟨by omega,by omega⟩)
  go_wp2_with fail
  go_roundw
  case rel=>exact ⟨i+1,by omega,by go_num,by rw [HNX.out],B1.out,HG⟩
  case measure=>simp [intOf];omega
theorem owns_or {n f:Int} {l:List Int}:(n ∈ l∨f=n)↔(∃ k,k<l.length∧l.getD k 0=n)∨f=n:=by
 apply or_congr_left
 constructor
 ·intro h
  obtain ⟨k,hk,rfl⟩:=List.getElem_of_mem h
  exact ⟨k,hk,by rw [List.getD_eq_getElem?_getD,List.getElem?_eq_getElem hk];rfl⟩
 ·rintro ⟨k,hk,rfl⟩
  rw [List.getD_eq_getElem?_getD,List.getElem?_eq_getElem hk]
  exact List.getElem_mem hk
theorem rowns_any (x f:Int) (A:Option Addr) (n c:Nat) (l:List Int) (w:World) (hr:Rd w 1 A n c (ints l)) (hn:n<=10000000) :
  Calls Tryz.prog 112 #[.agg #[.int .i64 f,.slice A n c],.int .i64 x] w fun r w'=>r=.returned (.bool (decide (x ∈ l∨f=x)))∧Below w.heap.size w w':=by
 have hl:n=l.length:=by have:=hr.len;rw [ints_length] at this;omega
 have HL:=hd_ hl
 have HR:=hd_ hr
 obtain ⟨d,hd⟩:∃ d,decide (x ∈ l∨f=x)=d:=⟨_,rfl⟩
 have HD:=hd_ hd
 rw [hd]
 have Q0:=hd_ (bn_ w (.cells #[.int .i64 f,.slice A n c] 87))
 have X0:=hd_ (Blk.made w 87 #[.int .i64 f,.slice A n c])
 clear hl hr hd
 go_enter Tryz.func112,Tryz.ntmps112
 go_wp2_with fail
 go_loopw [5] (fun v5 wx=>∃ i:Nat,i<=n∧v5=.int .i64 (i:Int)∧Blk wx w.heap.size 87 #[.int .i64 f,.slice A n c]∧Below w.heap.size w wx∧Hid (∀ k,k<i->l.getD k 0≠x)) (fun v5 _=>n-(intOf v5).toNat)
 case atStart=>exact ⟨0,by omega,rfl,X0.out,Q0.out,hd_ (fun k hk=>by omega)⟩
 case round =>
  clear X0 Q0
  obtain ⟨i,hi,rfl,hX,hB,HO⟩:=hrel
  have B1:=hd_ hB
  have x0:=Blk.cell hX 0
  have x1:=Blk.cell hX 1
  have XB:=hd_ hX
  clear hB hX
  by_cases hin:i<n
  case neg =>
   obtain rfl:n=i:=by omega
   have hlt:¬ (n:Int)<(n:Int):=by omega
   have HNO:=hd_ (show (∃ k,k<l.length∧l.getD k 0=x)->False from fun ⟨k,hk,e⟩=>HO.out k (by rw [HL.out];exact hk) e)
   by_cases hfx:f=x
   ·have hz:=hd_ (show d=true by rw [<- HD.out];exact decide_eq_true (.inr hfx))
    have hb:(f==x)=true:=by rw [beq_iff_eq];exact hfx
    clear hfx
    go_wp2_with fail
    go_ret
    exact ⟨by rw [hz.out];rfl,B1.out⟩
   ·have hz:=hd_ (show d=false by rw [<- HD.out];exact decide_eq_false (fun h=>(owns_or.1 h).elim HNO.out hfx))
    have hb:(f==x)=false:=by rw [beq_eq_false_iff_ne];exact hfx
    clear hfx
    go_wp2_with fail
    go_ret
    exact ⟨by rw [hz.out];rfl,B1.out⟩
  have hin':(i:Int)<(n:Int):=by omega
  obtain ⟨a,hA,hab,e0⟩:=(HR.out.later B1.out).int (k:=i) hin
  have hm:l.getD i 0=x->d=true:=fun e=>by rw [<- HD.out];exact decide_eq_true (owns_or.2 (.inl ⟨i,by rw [<- HL.out];exact hin,e⟩))
  have HM:=hd_ hm
  have HGO:=hd_ (show l.getD i 0≠x->∀ k,k<i+1->l.getD k 0≠x from fun h k hk=>by
   rcases Nat.lt_succ_iff_lt_or_eq.1 hk with e|rfl
   ·exact HO.out k e
   ·exact h)
  rw [hA] at x1 XB ⊢
  clear hA hm
  generalize l.getD i 0=y at e0 HM HGO
  by_cases hy:y=x
  ·have hz:=hd_ (HM.out hy)
   have hb:(y==x)=true:=by rw [beq_iff_eq];exact hy
   clear hy
   go_wp2_with fail
   go_ret
   exact ⟨by rw [hz.out];rfl,B1.out⟩
  ·have HG:=hd_ (HGO.out hy)
   have hb:(y==x)=false:=by rw [beq_eq_false_iff_ne];exact hy
   clear hy
   go_wp2_with fail
   go_roundw
   case rel=>exact ⟨i+1,by omega,by go_num,XB.out,B1.out,HG⟩
   case measure=>simp [intOf];omega
def edge (es:List (Int × Int)) (s:Int):Int × Int:=es.getD s.toNat (0,0)
def tch1 (es:List (Int × Int)) (i:Nat) (s:Int):List (Nat × Int):=[(i,(edge es s).1),(i,(edge es s).2)]
def tch (es:List (Int × Int)) (i:Nat) (way:List Int):List (Nat × Int):=way.flatMap (tch1 es i)
def wTo (es:List (Int × Int)) (ways:List (List Int)):Nat->List (Nat × Int)
 | 0=>[]
 | i+1=>wTo es ways i++tch es i (ways.getD i [])
theorem tch_next {es:List (Int × Int)} {i k:Nat} {way:List Int} (hk:k<way.length):tch es i (way.take (k+1))=tch es i (way.take k)++tch1 es i (way.getD k 0):=by
 unfold tch
 rw [List.take_succ_eq_append_getElem hk,List.flatMap_append,List.getD_eq_getElem?_getD,List.getElem?_eq_getElem hk]
 simp
theorem tch_split {es:List (Int × Int)} {i k:Nat} {way:List Int} (hk:k<way.length):∃ R,tch es i way=tch es i (way.take k)++(tch1 es i (way.getD k 0)++R):=by
 refine ⟨tch es i (way.drop (k+1)),?_⟩
 rw [<- List.append_assoc,<- tch_next hk]
 unfold tch
 rw [<- List.flatMap_append,List.take_append_drop]
theorem wTo_split {es:List (Int × Int)} {ways:List (List Int)} {i:Nat}:∀ (m:Nat),i<m->∃ R,wTo es ways m=wTo es ways i++(tch es i (ways.getD i [])++R)
 | 0,h=>by omega
 | m+1,h=>by
  rcases Nat.lt_succ_iff_lt_or_eq.1 h with h1|rfl
  ·obtain ⟨R,hR⟩:=wTo_split (es:=es) (ways:=ways) m h1
   exact ⟨R++tch es m (ways.getD m []),by rw [wTo,hR];simp⟩
  ·exact ⟨[],by rw [wTo];simp⟩
def lastT (L:List (Nat × Int)) (n:Int):Int:=match L.reverse.find? (fun t=>t.2=n) with|some t=>(t.1:Int)+1|none=>0
theorem lastT_nil (n:Int):lastT [] n=0:=rfl
theorem lastT_next (L:List (Nat × Int)) (i:Nat) (m n:Int):lastT (L++[(i,m)]) n=if m=n then (i:Int)+1 else lastT L n:=by
 unfold lastT
 rw [List.reverse_append]
 by_cases h:m=n
 ·rw [if_pos h];simp [h]
 ·rw [if_neg h];simp [List.find?_cons,h]
def byN (N:Nat) (L:List (Nat × Int)):List Int:=(List.range N).map fun (n:Nat)=>lastT L (n:Int)
theorem byN_len (N:Nat) (L:List (Nat × Int)):(byN N L).length=N:=by unfold byN;rw [List.length_map,List.length_range]
theorem byN_nil (N:Nat):byN N []=List.replicate N 0:=by unfold byN;rw [List.eq_replicate_iff];exact ⟨by simp,fun x hx=>by obtain ⟨n,-,rfl⟩:=List.mem_map.1 hx;rfl⟩
theorem byN_get {N:Nat} {L:List (Nat × Int)} {n:Nat} (h:n<N):(byN N L).getD n 0=lastT L (n:Int):=by
 unfold byN
 rw [List.getD_eq_getElem?_getD,List.getElem?_map,List.getElem?_range h]
 rfl
theorem byN_put {N:Nat} {L:List (Nat × Int)} {i n:Nat}:(byN N L).set n ((i:Int)+1)=byN N (L++[(i,(n:Int))]):=by
 apply List.ext_getElem?
 intro j
 rw [List.getElem?_set]
 unfold byN
 by_cases hj:j<N
 ·rw [List.getElem?_map,List.getElem?_range hj,List.getElem?_map,List.getElem?_range hj,List.length_map,List.length_range]
  simp only [Option.map_some,lastT_next]
  by_cases e:n=j
  ·subst e;rw [if_pos rfl,if_pos hj,if_pos rfl]
  ·rw [if_neg e,if_neg (by omega)]
 ·rw [List.getElem?_eq_none (by rw [List.length_map,List.length_range];omega),List.getElem?_eq_none (by rw [List.length_map,List.length_range];omega)]
  split
  ·rw [if_neg (by rw [List.length_map,List.length_range];omega)]
  ·rfl
def stepOk (good:Nat->Int->Prop) (L:List (Nat × Int)) (t:Nat × Int):Prop:=good t.1 t.2∧(lastT L t.2=0∨lastT L t.2=(t.1:Int)+1)
def ApartP (good:Nat->Int->Prop) (T:List (Nat × Int)):Prop:=∀ L t R,T=L++t::R->stepOk good L t
noncomputable instance (good:Nat->Int->Prop) (T:List (Nat × Int)):Decidable (ApartP good T):=Classical.propDecidable _
theorem ApartP.nil (good:Nat->Int->Prop):ApartP good []:=fun L t R h=>by simp at h
theorem ApartP.next {good:Nat->Int->Prop} {T:List (Nat × Int)} (h:ApartP good T) {t:Nat × Int} (ht:stepOk good T t):ApartP good (T++[t]):=by
 intro L u R he
 rcases List.eq_nil_or_concat R with rfl|⟨R',v,rfl⟩
 ·have:=List.append_inj' he (by simp)
  obtain ⟨h1,h2⟩:=this
  injection h2 with h2
  subst h1 h2
  exact ht
 ·rw [List.concat_eq_append,show L++u::(R'++[v])=(L++u::R')++[v] by simp] at he
  exact h L u R' (List.append_inj' he (by simp)).1
theorem ApartP.bad {good:Nat->Int->Prop} {T L R:List (Nat × Int)} {t:Nat × Int} (he:T=L++t::R) (ht:¬ stepOk good L t):¬ ApartP good T:=fun h=>ht (h L t R he)
theorem no_first {good:Nat->Int->Prop} {es:List (Int × Int)} {ways:List (List Int)} {i k:Nat} (hi:i<ways.length) (hk:k<(ways.getD i []).length)
  (h:¬ stepOk good (wTo es ways i++tch es i ((ways.getD i []).take k)) (i,(edge es ((ways.getD i []).getD k 0)).1)):¬ ApartP good (wTo es ways ways.length):=by
 obtain ⟨R,hR⟩:=wTo_split (es:=es) (ways:=ways) ways.length hi
 obtain ⟨Q,hQ⟩:=tch_split (es:=es) (i:=i) hk
 exact ApartP.bad (L:=wTo es ways i++tch es i ((ways.getD i []).take k)) (R:=(i,(edge es ((ways.getD i []).getD k 0)).2)::(Q++R)) (by rw [hR,hQ];simp [tch1]) h
theorem no_second {good:Nat->Int->Prop} {es:List (Int × Int)} {ways:List (List Int)} {i k:Nat} (hi:i<ways.length) (hk:k<(ways.getD i []).length)
  (h:¬ stepOk good (wTo es ways i++tch es i ((ways.getD i []).take k)++[(i,(edge es ((ways.getD i []).getD k 0)).1)]) (i,(edge es ((ways.getD i []).getD k 0)).2)):¬ ApartP good (wTo es ways ways.length):=by
 obtain ⟨R,hR⟩:=wTo_split (es:=es) (ways:=ways) ways.length hi
 obtain ⟨Q,hQ⟩:=tch_split (es:=es) (i:=i) hk
 exact ApartP.bad (L:=wTo es ways i++tch es i ((ways.getD i []).take k)++[(i,(edge es ((ways.getD i []).getD k 0)).1)]) (R:=Q++R) (by rw [hR,hQ];simp [tch1]) h
theorem edge_in {es:List (Int × Int)} {N:Nat} (h:∀ e ∈ es,(0<=e.1∧e.1<(N:Int))∧0<=e.2∧e.2<(N:Int)) {s:Int} (h0:0<=s) (h1:s<(es.length:Int)) :
  ∃ a b m:Nat,edge es s=((a:Int),(b:Int))∧a<N∧b<N∧s=(m:Int)∧m<es.length:=by
 obtain ⟨m,rfl⟩:∃ m:Nat,s=(m:Int):=⟨s.toNat,by omega⟩
 have hm:m<es.length:=by omega
 have:=h _ (List.getElem_mem hm)
 refine ⟨es[m].1.toNat,es[m].2.toNat,m,?_,by omega,by omega,rfl,hm⟩
 unfold edge
 rw [Int.toNat_natCast,List.getD_eq_getElem?_getD,List.getElem?_eq_getElem hm]
 exact Prod.ext (by simp;omega) (by simp;omega)
theorem pc_two (xs:List (Int × Int)) {m:Nat} (hm:m<xs.length):(pc xs)[m*2]? = some (.int .i64 (edge xs (m:Int)).1)∧(pc xs)[m*2+1]? = some (.int .i64 (edge xs (m:Int)).2):=by
 unfold edge
 rw [Int.toNat_natCast]
 induction xs generalizing m with
 | nil=>simp at hm
 | cons x xs ih =>
  cases m with
  | zero=>exact ⟨rfl,rfl⟩
  | succ m =>
   obtain ⟨h1,h2⟩:=ih (m:=m) (by simpa using hm)
   have e:pc (x::xs)=.int .i64 x.1::.int .i64 x.2::pc xs:=rfl
   rw [e,show (m+1)*2=m*2+1+1 by omega,show m*2+1+1+1=(m*2+1)+1+1 by omega]
   simp only [List.getElem?_cons_succ,List.getD_cons_succ]
   exact ⟨h1,h2⟩
end Go.Proofs.YtmkiphadkmodnaaGreat
