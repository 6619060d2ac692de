/- BfM, 29 -/
import Derived.Test.YtmkiphadkmodnaaGreatZBfM0
import Derived.Test.YtmkiphadkmodnaaGreatZBfM28
import Derived.Test.YtmkiphadkmodnaaGreatZBfM26
set_option linter.all false
set_option maxRecDepth 100000
set_option maxHeartbeats 8000000
namespace Go.Proofs.YtmkiphadkmodnaaGreat.Topo
structure Part (dep:Nat->List Nat) (S:Nat->Prop) (l:List Nat):Prop where
 nodup:l.Nodup
 mem:∀ b ∈ l,S b
 ord:∀ pre b post,l=pre++b::post->∀ k ∈ dep b,k ∈ pre
theorem Part.nil (dep:Nat->List Nat) (S:Nat->Prop):Part dep S [] :=
 ⟨List.nodup_nil,fun b h=>(nomatch h),fun pre b post h=>by cases pre <;> cases h⟩
theorem Part.snoc {dep:Nat->List Nat} {S:Nat->Prop} {l:List Nat} (h:Part dep S l) {b:Nat} (hb:S b) (hn:b ∉ l) (hd:∀ k ∈ dep b,k ∈ l):Part dep S (l++[b]):=by
 refine ⟨?_,?_,?_⟩
 ·rw [List.nodup_append]
  exact ⟨h.nodup,by simp,fun a ha c hc=>by simp at hc;subst hc;intro e;exact hn (e ▸ ha)⟩
 ·intro c hc
  rw [List.mem_append] at hc
  rcases hc with hc|hc
  ·exact h.mem c hc
  ·simp at hc;subst hc;exact hb
 ·intro pre c post e k hk
  rcases List.append_eq_append_iff.1 e with ⟨a,e1,e2⟩|⟨a,e1,e2⟩
  ·cases a with
   | nil=>simp at e1 e2;obtain ⟨rfl,rfl⟩:=e2;subst e1;exact hd k hk
   | cons x a =>
    simp at e2
  ·cases a with
   | nil=>simp at e1 e2;obtain ⟨rfl,-⟩:=e2;subst e1;exact hd k hk
   | cons x a =>
    simp at e2
    obtain ⟨rfl,e2⟩:=e2
    exact h.ord pre c a e1 k hk
structure All (dep:Nat->List Nat) (S:Nat->Prop) (l:List Nat):Prop extends Part dep S l where
 all:∀ b,S b->b ∈ l
theorem stuck {dep:Nat->List Nat} {S:Nat->Prop} {l m:List Nat} (hl:Part dep S l) (hs:∀ b,S b->b ∉ l->∃ k ∈ dep b,k ∉ l) (hm:All dep S m):∀ b,S b->b ∈ l:=by
 have key:∀ n,∀ pre post,m=pre++post->pre.length=n->∀ b ∈ pre,b ∈ l:=by
  intro n
  induction n with
  | zero=>intro pre post e h b hb;cases pre with|nil=>cases hb|cons x t=>simp at h
  | succ n ih =>
   intro pre post e h b hb
   rcases List.eq_nil_or_concat pre with rfl|⟨p,x,rfl⟩
   ·cases hb
   ·rw [List.concat_eq_append] at e h hb
    have hp:p.length=n:=by simp at h;omega
    have ihp:=ih p (x::post) (by rw [e];simp) hp
    rw [List.mem_append] at hb
    rcases hb with hb|hb
    ·exact ihp b hb
    ·simp at hb;subst hb
     refine Classical.byContradiction fun hc=>?_
     have hS:S b:=hm.mem b (by rw [e];simp)
     obtain ⟨k,hk,hkl⟩:=hs b hS hc
     exact hkl (ihp k (hm.ord p b post (by rw [e];simp) k hk))
 intro b hb
 exact key m.length m [] (by simp) rfl b (hm.all b hb)
theorem sub_len:∀ {l m:List Nat},l.Nodup->(∀ x ∈ l,x ∈ m)->l.length<=m.length
 | [],m,_,_=>Nat.zero_le _
 | x::l,m,h,hs=>by
  have hx:=hs x (by simp)
  have:=sub_len (l:=l) (m:=m.erase x) (List.nodup_cons.1 h).2 (fun y hy=>(List.mem_erase_of_ne (fun e:y=x=>by subst e;exact (List.nodup_cons.1 h).1 hy)).2 (hs y (by simp [hy])))
  rw [List.length_erase_of_mem hx] at this
  have:0<m.length:=List.length_pos_of_mem hx
  simp;omega
theorem sub_all {l m:List Nat} (h:l.Nodup) (hs:∀ x ∈ l,x ∈ m) (hl:m.length<=l.length):∀ y ∈ m,y ∈ l:=by
 intro y hy
 refine Classical.byContradiction fun hc=>?_
 have:=sub_len h (m:=m.erase y) (fun x hx=>(List.mem_erase_of_ne (fun e:x=y=>by subst e;exact hc hx)).2 (hs x hx))
 rw [List.length_erase_of_mem hy] at this
 have:0<m.length:=List.length_pos_of_mem hy
 omega
theorem Part.all_of_len {dep:Nat->List Nat} {S:Nat->Prop} [DecidablePred S] {n:Nat} {l:List Nat} (h:Part dep S l) (hS:∀ b,S b->b<n) (hl:l.length=((List.range n).filter (fun b=>decide (S b))).length):All dep S l:=by
 refine ⟨h,fun b hb=>?_⟩
 have hsub:∀ x ∈ l,x ∈ (List.range n).filter (fun b=>decide (S b)):=fun c hc=>List.mem_filter.2 ⟨List.mem_range.2 (hS c (h.mem c hc)),by simpa using h.mem c hc⟩
 exact sub_all h.nodup hsub (by omega) b (List.mem_filter.2 ⟨List.mem_range.2 (hS b hb),by simpa using hb⟩)
theorem All.len {dep:Nat->List Nat} {S:Nat->Prop} [DecidablePred S] {n:Nat} {l:List Nat} (h:All dep S l) (hS:∀ b,S b->b<n):l.length=((List.range n).filter (fun b=>decide (S b))).length:=by
 have h1:∀ x ∈ l,x ∈ (List.range n).filter (fun b=>decide (S b)):=fun c hc=>List.mem_filter.2 ⟨List.mem_range.2 (hS c (h.mem c hc)),by simpa using h.mem c hc⟩
 have h2:∀ x ∈ (List.range n).filter (fun b=>decide (S b)),x ∈ l:=fun c hc=>h.all c (by simpa using (List.mem_filter.1 hc).2)
 have a:=sub_len h.nodup h1
 have b:=sub_len ((List.nodup_range).filter _) h2
 omega
def runL (val:Nat->List Bool->Bool) (n:Nat) (l:List Nat) (w:List Bool):List Bool:=l.foldl (fun w b=>w.set (n+b) (val b w)) w
theorem runL_snoc (val:Nat->List Bool->Bool) (n:Nat) (l:List Nat) (b:Nat) (w:List Bool):runL val n (l++[b]) w=(runL val n l w).set (n+b) (val b (runL val n l w)):=by simp [runL]
theorem runL_length (val:Nat->List Bool->Bool) (n:Nat):∀ (l:List Nat) (w:List Bool),(runL val n l w).length=w.length
 | [],w=>rfl
 | b::l,w=>by show (runL val n l _).length=_;rw [runL_length val n l];simp
theorem runL_other (val:Nat->List Bool->Bool) (n:Nat):∀ (l:List Nat) (w:List Bool) (j:Nat),(∀ b ∈ l,n+b≠j)->(runL val n l w).getD j false=w.getD j false
 | [],w,j,_=>rfl
 | b::l,w,j,h=>by
  show (runL val n l _).getD j false=_
  rw [runL_other val n l _ j (fun c hc=>h c (by simp [hc]))]
  have:=h b (by simp)
  simp [List.getD_eq_getElem?_getD,List.getElem?_set_ne this]
theorem runL_own {dep:Nat->List Nat} {S:Nat->Prop} {val:Nat->List Bool->Bool} {n N:Nat} {l:List Nat} (hl:Part dep S l) (hS:∀ b,S b->b<N)
  (hv:∀ b u w,S b->(∀ j,(∀ c,S c->c ∉ dep b->n+c≠j)->u.getD j false=w.getD j false)->val b u=val b w) (w:List Bool) (hw:n+N<=w.length) :
  ∀ b ∈ l,(runL val n l w).getD (n+b) false=val b (runL val n l w):=by
 have key:∀ m,∀ pre post,l=pre++post->pre.length=m->∀ b ∈ pre,(runL val n pre w).getD (n+b) false=val b (runL val n pre w):=by
  intro m
  induction m with
  | zero=>intro pre post e h b hb;cases pre with|nil=>cases hb|cons x t=>simp at h
  | succ m ih =>
   intro pre post e h b hb
   rcases List.eq_nil_or_concat pre with rfl|⟨p,x,rfl⟩
   ·cases hb
   ·rw [List.concat_eq_append] at e h hb ⊢
    have hp:p.length=m:=by simp at h;omega
    have ihp:=ih p (x::post) (by rw [e];simp) hp
    have hx:S x:=hl.mem x (by rw [e];simp)
    have hnd:(p++[x]).Nodup:=(List.nodup_append.1 (e ▸ hl.nodup)).1
    have hxp:x ∉ p:=fun hc=>(List.nodup_append.1 hnd).2.2 x hc x (by simp) rfl
    rw [runL_snoc]
    have hlen:n+x<(runL val n p w).length:=by rw [runL_length];have:=hS x hx;omega
    have hself:∀ c,S c->c ∈ p++[x]->x ∉ dep c:=by
     intro c hc hcm hxc
     obtain ⟨q,r,hqr⟩:=List.append_of_mem hcm
     have hm:=hl.ord q c (r++post) (by rw [e,hqr];simp) x hxc
     have hnq:(q++c::r).Nodup:=hqr ▸ hnd
     -- x lies ahead of c in p++[x]
     have hl1:(p++[x]).length=(q++c::r).length:=by rw [hqr]
     obtain ⟨i,hi,hxi⟩:=List.mem_iff_getElem.1 hm
     have h1:(p++[x])[i]'(by rw [hl1];simp;omega)=x:=by
      have:(p++[x])[i]'(by rw [hl1];simp;omega)=(q++c::r)[i]'(by simp;omega):=by simp only [hqr]
      rw [this,List.getElem_append_left hi,hxi]
     by_cases hip:i<p.length
     ·rw [List.getElem_append_left hip] at h1
      exact hxp (h1 ▸ List.getElem_mem hip)
     ·have:(p++[x]).length<=q.length:=by simp;omega
      rw [hl1] at this;simp at this;omega
    have hval:∀ c,S c->c ∈ p++[x]->val c ((runL val n p w).set (n+x) (val x (runL val n p w)))=val c (runL val n p w):=by
     intro c hc hcm
     refine hv c _ _ hc fun j hj=>?_
     have hne:n+x≠j:=hj x hx (hself c hc hcm)
     simp [List.getD_eq_getElem?_getD,List.getElem?_set_ne hne]
    rw [List.mem_append] at hb
    rcases hb with hb|hb
    ·have hne:n+x≠n+b:=fun e=>hxp (by rw [show x=b by omega];exact hb)
     rw [hval b (hl.mem b (by rw [e];simp [hb])) (by simp [hb]),<- ihp b hb]
     simp [List.getD_eq_getElem?_getD,List.getElem?_set_ne hne]
    ·simp at hb;subst hb
     rw [hval b hx (by simp)]
     simp [List.getD_eq_getElem?_getD,List.getElem?_set_self hlen]
 exact key l.length l [] (by simp) rfl
theorem runL_same {dep:Nat->List Nat} {S:Nat->Prop} {val:Nat->List Bool->Bool} {n N:Nat} {l m:List Nat} (hl:All dep S l) (hm:All dep S m) (hS:∀ b,S b->b<N)
  (hv:∀ b u w,S b->(∀ j,(∀ c,S c->c ∉ dep b->n+c≠j)->u.getD j false=w.getD j false)->val b u=val b w) (w:List Bool) (hw:n+N<=w.length) :
  runL val n l w=runL val n m w:=by
 have hother:∀ j,(∀ c,S c->n+c≠j)->(runL val n l w).getD j false=(runL val n m w).getD j false:=fun j hj=>by
  rw [runL_other val n l w j (fun b hb=>hj b (hl.mem b hb)),runL_other val n m w j (fun b hb=>hj b (hm.mem b hb))]
 have key:∀ k,∀ pre post,l=pre++post->pre.length=k->∀ b ∈ pre,(runL val n l w).getD (n+b) false=(runL val n m w).getD (n+b) false:=by
  intro k
  induction k with
  | zero=>intro pre post e h b hb;cases pre with|nil=>cases hb|cons x t=>simp at h
  | succ k ih =>
   intro pre post e h b hb
   rcases List.eq_nil_or_concat pre with rfl|⟨p,x,rfl⟩
   ·cases hb
   ·rw [List.concat_eq_append] at e h hb
    have hp:p.length=k:=by simp at h;omega
    have ihp:=ih p (x::post) (by rw [e];simp) hp
    rw [List.mem_append] at hb
    rcases hb with hb|hb
    ·exact ihp b hb
    ·simp at hb;subst hb
     have hb:b ∈ l:=by rw [e];simp
     have hSb:=hl.mem b hb
     rw [runL_own hl.toPart hS hv w hw b hb,runL_own hm.toPart hS hv w hw b (hm.all b hSb)]
     refine hv b _ _ hSb fun j hj=>?_
     by_cases hc:∃ c,S c∧n+c=j
     ·obtain ⟨c,hc,rfl⟩:=hc
      by_cases hd:c ∈ dep b
      ·exact ihp c (hl.ord p b post (by rw [e];simp) c hd)
      ·exact absurd rfl (hj c hc hd)
     ·exact hother j fun c h1 h2=>hc ⟨c,h1,h2⟩
 apply List.ext_getElem
 ·rw [runL_length,runL_length]
 ·intro j h1 h2
  have e:(runL val n l w).getD j false=(runL val n m w).getD j false:=by
   by_cases hc:∃ c,S c∧n+c=j
   ·obtain ⟨c,hc,rfl⟩:=hc
    exact key l.length l [] (by simp) rfl c (hl.all c hc)
   ·exact hother j fun c h1 h2=>hc ⟨c,h1,h2⟩
  simpa [List.getD_eq_getElem?_getD,List.getElem?_eq_getElem h1,List.getElem?_eq_getElem h2] using e
end Go.Proofs.YtmkiphadkmodnaaGreat.Topo
namespace Go.Proofs.YtmkiphadkmodnaaGreat.Topo
def beh (E:List (Nat × Nat)) (k:Nat):List Nat:=(E.filter (fun e=>e.1==k)).map (·.2)
def cnt (E:List (Nat × Nat)) (out:List Nat) (b:Nat):Nat:=E.countP (fun e=>e.2==b&&!(out.elem e.1))
def depE (E:List (Nat × Nat)) (b:Nat):List Nat:=(E.filter (fun e=>e.2==b)).map (·.1)
theorem mem_depE {E:List (Nat × Nat)} {b k:Nat}:k ∈ depE E b↔(k,b) ∈ E:=by
 simp only [depE,List.mem_map,List.mem_filter]
 constructor
 ·rintro ⟨⟨x,y⟩,⟨h,e⟩,rfl⟩;simp at e;subst e;exact h
 ·intro h;exact ⟨(k,b),⟨h,by simp⟩,rfl⟩
theorem mem_beh {E:List (Nat × Nat)} {b k:Nat}:b ∈ beh E k↔(k,b) ∈ E:=by
 simp only [beh,List.mem_map,List.mem_filter]
 constructor
 ·rintro ⟨⟨x,y⟩,⟨h,e⟩,rfl⟩;simp at e;subst e;exact h
 ·intro h;exact ⟨(k,b),⟨h,by simp⟩,rfl⟩
theorem beh_snoc (E:List (Nat × Nat)) (k b j:Nat):beh (E++[(k,b)]) j=if j=k then beh E j++[b] else beh E j:=by
 by_cases h:j=k
 ·subst h;simp [beh]
 ·simp [beh,h,Ne.symm h,List.filter_append]
theorem cnt_snoc (E:List (Nat × Nat)) (k b j:Nat):cnt (E++[(k,b)]) [] j=if j=b then cnt E [] j+1 else cnt E [] j:=by
 by_cases h:j=b
 ·subst h;simp [cnt,List.countP_append]
 ·simp [cnt,List.countP_append,h];intro e;exact absurd e.symm h
theorem cnt_zero {E:List (Nat × Nat)} {out:List Nat} {b:Nat}:cnt E out b=0↔∀ k ∈ depE E b,k ∈ out:=by
 simp only [cnt,List.countP_eq_zero]
 constructor
 ·intro h k hk
  have:=h (k,b) (mem_depE.1 hk)
  simpa using this
 ·rintro h ⟨k,c⟩ he
  by_cases hc:c=b
  ·subst hc
   have:=h k (mem_depE.2 he)
   simp [this]
  ·simp [hc]
theorem cnt_step:∀ (E:List (Nat × Nat)) (out:List Nat) (i:Nat),i ∉ out->∀ b,cnt E out b=cnt E (out++[i]) b+(beh E i).count b
 | [],out,i,_,b=>by simp [cnt,beh]
 | (k,c)::E,out,i,hi,b=>by
  have ih:=cnt_step E out i hi b
  simp only [cnt,beh] at ih ⊢
  rw [List.countP_cons,List.countP_cons,List.filter_cons]
  generalize E.countP (fun e=>e.2==b&&!(out.elem e.1))=A at ih ⊢
  generalize E.countP (fun e=>e.2==b&&!((out++[i]).elem e.1))=B at ih ⊢
  by_cases hk:k=i
  ·subst hk
   have hn:out.elem k=false:=by simpa using hi
   have he:(out++[k]).elem k=true:=by simp
   by_cases hc:c=b
   ·subst hc;simp only [hn,he,beq_self_eq_true,if_true,List.map_cons,List.count_cons_self,Bool.not_false,Bool.not_true,Bool.and_true,Bool.and_false,Bool.false_eq_true,if_false];omega
   ·have hb:(c==b)=false:=by simpa using hc
    simp only [hn,he,hb,beq_self_eq_true,if_true,List.map_cons,List.count_cons_of_ne hc,Bool.false_and,Bool.false_eq_true,if_false];omega
  ·have he:(out++[i]).elem k=out.elem k:=by simp [hk]
   have:(k==i)=false:=by simpa using hk
   simp only [he,this,Bool.false_eq_true,if_false]
   omega
structure St (E:List (Nat × Nat)) (S:Nat->Prop) (N:Nat) (out ready waits rest:List Nat):Prop where
 len:waits.length=N
 nd:(out++ready).Nodup
 part:Part (depE E) S out
 rd:∀ b ∈ ready,S b∧waits.getD b 0=0
 zo:∀ b ∈ out,waits.getD b 0=0
 wt:∀ b,S b->waits.getD b 0=cnt E out b+rest.count b
 zero:∀ b,S b->waits.getD b 0=0->b ∈ out∨b ∈ ready
variable {E : List (Nat × Nat)} {S : Nat → Prop} {N : Nat} {out ready waits rest : List Nat}
theorem St.perm {ready':List Nat} (h:St E S N out ready waits rest) (p:ready'.Perm ready):St E S N out ready' waits rest :=
 ⟨h.len,((List.Perm.append_left out p).nodup_iff).2 h.nd,h.part,fun b hb=>h.rd b (p.mem_iff.1 hb),h.zo,h.wt,fun b hb hz=>(h.zero b hb hz).imp id p.mem_iff.2⟩
theorem St.pop {i:Nat} (h:St E S N out (i::ready) waits []):St E S N (out++[i]) ready waits (beh E i)∧S i∧i ∉ out:=by
 have hi:=h.rd i (by simp)
 have hno:i ∉ out:=fun hc=>(List.nodup_append.1 h.nd).2.2 i hc i (by simp) rfl
 have hw:=h.wt i hi.1
 rw [hi.2] at hw
 have hc:cnt E out i=0:=by simp at hw;omega
 refine ⟨⟨h.len,by simpa using h.nd,h.part.snoc hi.1 hno (cnt_zero.1 hc),fun b hb=>h.rd b (by simp [hb]),?_,?_,?_⟩,hi.1,hno⟩
 ·intro b hb
  rw [List.mem_append] at hb
  rcases hb with hb|hb
  ·exact h.zo b hb
  ·simp at hb;subst hb;exact hi.2
 ·intro b hb
  rw [h.wt b hb,cnt_step E out i hno b];simp
 ·intro b hb hz
  rcases h.zero b hb hz with x|x
  ·exact .inl (by simp [x])
  ·simp at x
   rcases x with rfl|x
   ·exact .inl (by simp)
   ·exact .inr x
theorem getD_set' {l:List Nat} {k v b:Nat} (hk:k<l.length):(l.set k v).getD b 0=if b=k then v else l.getD b 0:=by
 by_cases h:b=k
 ·subst h;simp [List.getD_eq_getElem?_getD,List.getElem?_set_self hk]
 ·rw [if_neg h];simp [List.getD_eq_getElem?_getD,List.getElem?_set_ne (Ne.symm h)]
theorem St.next {k:Nat} (h:St E S N out ready waits (k::rest)) (hS:∀ b,S b->b<N) (hk:S k) :
  0<waits.getD k 0∧k ∉ out∧k ∉ ready∧(waits.getD k 0=1->St E S N out (k::ready) (waits.set k 0) rest)∧(waits.getD k 0≠1->St E S N out ready (waits.set k (waits.getD k 0-1)) rest):=by
 have hpos:0<waits.getD k 0:=by have:=h.wt k hk;rw [List.count_cons_self] at this;omega
 have hlt:k<waits.length:=by rw [h.len];exact hS k hk
 have hno:k ∉ out:=fun hc=>by have:=h.zo k hc;omega
 have hnr:k ∉ ready:=fun hc=>by have:=(h.rd k hc).2;omega
 have hwt:∀ v,v+1=waits.getD k 0->∀ b,S b->(waits.set k v).getD b 0=cnt E out b+rest.count b:=by
  intro v hv b hb
  rw [getD_set' hlt]
  have:=h.wt b hb
  by_cases e:b=k
  ·subst e;rw [if_pos rfl];rw [List.count_cons_self] at this;omega
  ·rw [if_neg e,this,List.count_cons_of_ne (Ne.symm e)]
 refine ⟨hpos,hno,hnr,fun h1=>?_,fun h1=>?_⟩
 ·refine ⟨by simp [h.len],?_,h.part,?_,?_,hwt 0 (by omega),?_⟩
  ·obtain ⟨a,b,c⟩:=List.nodup_append.1 h.nd
   rw [List.nodup_append]
   refine ⟨a,List.nodup_cons.2 ⟨hnr,b⟩,fun x hx y hy=>?_⟩
   simp at hy
   rcases hy with rfl|hy
   ·intro e;exact hno (e ▸ hx)
   ·exact c x hx y hy
  ·intro b hb
   rw [getD_set' hlt]
   simp at hb
   rcases hb with rfl|hb
   ·exact ⟨hk,by simp⟩
   ·have:=h.rd b hb
    exact ⟨this.1,by split <;> simp_all⟩
  ·intro b hb
   rw [getD_set' hlt]
   have:=h.zo b hb
   split <;> simp_all
  ·intro b hb hz
   rw [getD_set' hlt] at hz
   by_cases e:b=k
   ·subst e;exact .inr (by simp)
   ·rw [if_neg e] at hz
    exact (h.zero b hb hz).imp id (fun x=>by simp [x])
 ·refine ⟨by simp [h.len],h.nd,h.part,?_,?_,hwt _ (by omega),?_⟩
  ·intro b hb
   rw [getD_set' hlt]
   have:=h.rd b hb
   rw [if_neg (fun e:b=k=>hnr (e ▸ hb))]
   exact this
  ·intro b hb
   rw [getD_set' hlt,if_neg (fun e:b=k=>hno (e ▸ hb))]
   exact h.zo b hb
  ·intro b hb hz
   rw [getD_set' hlt] at hz
   by_cases e:b=k
   ·subst e;rw [if_pos rfl] at hz;omega
   ·rw [if_neg e] at hz
    exact h.zero b hb hz
theorem St.done (h:St E S N out [] waits []) {m:List Nat} (hm:All (depE E) S m):All (depE E) S out:=by
 refine ⟨h.part,stuck h.part (fun b hb hn=>?_) hm⟩
 refine Classical.byContradiction fun hc=>?_
 have hz:waits.getD b 0=0:=by
  rw [h.wt b hb]
  have:cnt E out b=0:=cnt_zero.2 fun k hk=>Classical.byContradiction fun hk2=>hc ⟨k,hk,hk2⟩
  simp [this]
 rcases h.zero b hb hz with x|x
 ·exact hn x
 ·cases x
theorem St.init {ready waits:List Nat} (hl:waits.length=N) (hn:ready.Nodup) (hr:∀ b,b ∈ ready↔S b∧waits.getD b 0=0) (hw:∀ b,S b->waits.getD b 0=cnt E [] b):St E S N [] ready waits [] :=
 ⟨hl,by simpa using hn,Part.nil _ _,fun b hb=>(hr b).1 hb,fun b hb=>(nomatch hb),fun b hb=>by rw [hw b hb];simp,fun b hb hz=>.inr ((hr b).2 ⟨hb,hz⟩)⟩
end Go.Proofs.YtmkiphadkmodnaaGreat.Topo
namespace Go.Proofs.YtmkiphadkmodnaaGreat
open Go.RowKit
def natI (l:List Nat):List Int:=l.map fun (n:Nat)=>(n:Int)
theorem natI_length (l:List Nat):(natI l).length=l.length:=by simp [natI]
theorem natI_getD (l:List Nat) (k:Nat):(natI l).getD k 0=(l.getD k 0:Int):=by
 simp only [natI,List.getD_eq_getElem?_getD,List.getElem?_map]
 cases l[k]? <;> rfl
theorem natI_set (l:List Nat) (k v:Nat):(natI l).set k (v:Int)=natI (l.set k v):=by simp [natI,List.map_set]
theorem natI_back {m:List Int} {l:List Nat} (h:m.Perm (natI l)):∃ m',m=natI m'∧m'.Perm l:=by
 refine ⟨m.map Int.toNat,?_,?_⟩
 ·have hm:∀ x ∈ m,∃ n:Nat,x=(n:Int):=fun x hx=>by
   obtain ⟨n,-,hn⟩:=List.mem_map.1 (h.mem_iff.1 hx);exact ⟨n,hn.symm⟩
  unfold natI
  rw [List.map_map]
  have e:m.map ((fun (n:Nat)=>(n:Int)) ∘ Int.toNat)=m.map id:=List.map_congr_left fun x hx=>by
   obtain ⟨n,rfl⟩:=hm x hx
   rfl
  rw [e,List.map_id]
 ·have:=h.map Int.toNat
  unfold natI at this
  rw [List.map_map] at this
  have e:l.map (Int.toNat ∘ fun (n:Nat)=>(n:Int))=l:=by
   rw [show (Int.toNat ∘ fun (n:Nat)=>(n:Int))=id from funext fun n=>by simp];simp
  rwa [e] at this
def blkOf (A:Option Addr):Option Nat:=A.map (·.block)
theorem own_blk (A:Option Addr) (n c:Nat):(Value.slice A n c).ownBlock=blkOf A:=by cases A <;> rfl
structure Chg (w w':World) (X:Nat->Prop):Prop where
 os:w'.os=w.os
 tape:w'.tape=w.tape
 output:w'.output=w.output
 size:w.heap.size<=w'.heap.size
 block:∀ k,k<w.heap.size->¬ X k->w'.heap[k]? = w.heap[k]?
theorem Chg.of_hk {w w':World} {R:Nat} {row:Option Nat} (h:HK w w' R row):Chg w w' fun k=>k=R∨some k=row :=
 ⟨h.os,h.tape,h.output,h.size,fun k hk hx=>h.block k hk (fun e=>hx (.inl e)) (fun e=>hx (.inr e))⟩
theorem Chg.of_grown {w w':World} {row:Option Nat} (h:w.grownBy w' row):Chg w w' fun k=>some k=row :=
 ⟨h.os,h.tape,h.output,h.size,fun k hk hx=>h.block k hk hx⟩
theorem Chg.set (w:World) (g i:Nat) (v:Value):Chg w (w.setCell ⟨g,i,none⟩ v) fun k=>k=g :=
 ⟨rfl,rfl,rfl,by simp,fun k _ hk=>Below.heap_setCell w ⟨g,i,none⟩ v k hk⟩
theorem Chg.trans {a b c:World} {X Y:Nat->Prop} (h:Chg a b X) (k:Chg b c Y):Chg a c fun i=>X i∨Y i :=
 ⟨k.os.trans h.os,k.tape.trans h.tape,k.output.trans h.output,Nat.le_trans h.size k.size,fun i hi hx=>(k.block i (Nat.lt_of_lt_of_le hi h.size) (fun e=>hx (.inr e))).trans (h.block i hi (fun e=>hx (.inl e)))⟩
theorem Chg.below {B:Nat} {a w w':World} {X:Nat->Prop} (h:Chg w w' X) (hb:Below B a w) (hB:B<=w.heap.size) (hX:∀ k,X k->B<=k):Below B a w' :=
 ⟨h.os.trans hb.os,h.tape.trans hb.tape,h.output.trans hb.output,Nat.le_trans hb.size h.size,fun k hk=>(h.block k (by omega) (fun hx=>by have:=hX k hx;omega)).trans (hb.block k hk)⟩
theorem Chg.blk {w w':World} {X:Nat->Prop} (h:Chg w w' X) {g:Nat} {t:TypeId} {cs:Array Value} (hb:Blk w g t cs) (hx:¬ X g):Blk w' g t cs:=(h.block g hb.lt hx).trans hb
theorem Chg.own {w w':World} {X:Nat->Prop} (h:Chg w w' X) {base:Nat} {e:TypeId} {size n:Nat} {v:Value} {xs:List Value} (ho:w.ownsRow base e size v n xs) (hx:∀ g,v.ownBlock=some g->¬ X g):w'.ownsRow base e size v n xs:=by
 refine ⟨ho.1,?_⟩
 rcases ho.2 with hn|⟨g,cap,cur,rfl,hb,hg,rest⟩
 ·exact .inl hn
 ·refine .inr ⟨g,cap,cur,rfl,hb,?_,rest⟩
  rw [h.block g (Array.getElem?_eq_some_iff.1 hg).1 (hx g rfl)]
  exact hg
structure Row (w:World) (base:Nat) (f:Nat->Nat) (nm:Nat) (A:Option Addr) (c:Nat) (l:List Nat):Prop where
 own:w.ownsRow base 3 1 (.slice A l.length c) l.length (ints (natI l))
 name:∀ g,blkOf A=some g->f g=nm
def isInt (w:World) (g:Nat):Prop:=∃ cs,Blk w g 3 cs
section
variable {w w' : World} {base nm nm' c : Nat} {f f' : Nat → Nat} {A : Option Addr} {l : List Nat}
theorem own_int {xs:List Value} {n size:Nat} {v:Value} {e:TypeId} (h:w.ownsRow base e size v n xs) {g:Nat} (hg:v.ownBlock=some g):∃ cs,Blk w g e cs:=by
 rcases h.2 with ⟨rfl,_⟩|⟨g',cap,cur,rfl,hb,hh,_⟩
 ·simp [Value.ownBlock] at hg
 ·simp [Value.ownBlock] at hg
  subst hg
  exact ⟨cur,hh⟩
theorem Row.int (h:Row w base f nm A c l) {g:Nat} (hg:blkOf A=some g):isInt w g:=own_int h.own (by rw [own_blk];exact hg)
theorem Row.lt (h:Row w base f nm A c l) {g:Nat} (hg:blkOf A=some g):base<=g∧g<w.heap.size:=h.own.lt g (by rw [own_blk];exact hg)
theorem Row.chg (h:Row w base f nm A c l) {X:Nat->Prop} (hc:Chg w w' X) (hx:∀ g,isInt w g->f g=nm->¬ X g) (hf:∀ g,g<w.heap.size->f' g=f g):Row w' base f' nm A c l :=
 ⟨hc.own h.own fun g hg=>hx g (own_int h.own hg) (h.name g (by rw [<- own_blk A l.length c];exact hg)),fun g hg=>by rw [hf g (h.lt hg).2];exact h.name g hg⟩
theorem Row.keep (h:Row w base f nm A c l) (hb:Below w.heap.size w w'):Row w' base f nm A c l:=⟨own_keep h.own hb,h.name⟩
end
def named (f:Nat->Nat) (s nm:Nat):Nat->Nat:=fun b=>if s<=b then nm else f b
theorem named_old (f:Nat->Nat) {s nm g:Nat} (h:g<s):named f s nm g=f g:=by unfold named;rw [if_neg (by omega)]
theorem named_new {f:Nat->Nat} {s nm:Nat} {A B:Option Addr} (hn:∀ g,blkOf A=some g->f g=nm) (ha:∀ g,blkOf A=some g->g<s) (hq:blkOf B=blkOf A∨∀ g,blkOf B=some g->s<=g):∀ g,blkOf B=some g->named f s nm g=nm:=by
 intro g hg
 rcases hq with h|h
 ·rw [h] at hg;rw [named_old f (ha g hg)];exact hn g hg
 ·unfold named;rw [if_pos (h g hg)]
abbrev SN:Type:=Option Addr × Nat × List Nat
def rowV (b:SN):Value:=.slice b.1 b.2.2.length b.2.1
structure OW (w0 wx:World) (P:PK) (N R gw gb:Nat) (f:Nat->Nat) (Wt:List Nat) (Bs:List SN) (A:Option Addr) (c:Nat) (L:List Nat) (AO:Option Addr) (cO:Nat) (O:List Nat):Prop where
 below:Below w0.heap.size w0 wx
 box:Blk wx w0.heap.size 27 #[.int .i64 P.I,.slice P.AB P.bs.length P.cB,.slice P.AO P.outs.length P.cO]
 wl:Wt.length=N
 bl:Bs.length=N
 wait:Row wx w0.heap.size f 0 (some ⟨gw,0,none⟩) N Wt
 outer:wx.ownsRow w0.heap.size 25 1 (.slice (some ⟨gb,0,none⟩) N N) N (Bs.map rowV)
 inner:∀ k b,Bs[k]? = some b->Row wx w0.heap.size f (3+k) b.1 b.2.1 b.2.2
 ready:HQ wx w0.heap.size R A c (natI L)
 rname:∀ g,blkOf A=some g->f g=1
 out:Row wx w0.heap.size f 2 AO cO O
 lt:w0.heap.size<R
section
variable {w0 wx wy : World} {P : PK} {N R gw gb : Nat} {f : Nat → Nat} {Wt : List Nat} {Bs : List SN} {A A' : Option Addr} {c c' : Nat} {L L' : List Nat} {AO AO' : Option Addr} {cO cO' : Nat} {O O' : List Nat}
theorem OW.size (h:OW w0 wx P N R gw gb f Wt Bs A c L AO cO O):w0.heap.size<wx.heap.size:=h.box.lt
theorem OW.obk (h:OW w0 wx P N R gw gb f Wt Bs A c L AO cO O):∃ cs,Blk wx gb 25 cs:=own_int h.outer rfl
theorem OW.gbl (h:OW w0 wx P N R gw gb f Wt Bs A c L AO cO O):w0.heap.size<=gb∧gb<wx.heap.size:=h.outer.lt gb rfl
theorem OW.keep (h:OW w0 wx P N R gw gb f Wt Bs A c L AO cO O) (hb:Below wx.heap.size wx wy):OW w0 wy P N R gw gb f Wt Bs A c L AO cO O :=
 ⟨bt_ h.below hb,h.box.keep hb,h.wl,h.bl,h.wait.keep hb,own_keep h.outer hb,fun k b hk=>(h.inner k b hk).keep hb,⟨h.ready.box.keep hb,own_keep h.ready.row hb⟩,h.rname,h.out.keep hb,h.lt⟩
theorem OW.box_chg (h:OW w0 wx P N R gw gb f Wt Bs A c L AO cO O) {X:Nat->Prop} (hc:Chg wx wy X) (hX:∀ k,X k->k=R∨k=gb∨isInt wx k):Blk wy w0.heap.size 27 #[.int .i64 P.I,.slice P.AB P.bs.length P.cB,.slice P.AO P.outs.length P.cO]:=by
 refine hc.blk h.box fun hx=>?_
 rcases hX _ hx with e|e|⟨cs,e⟩
 ·have:=h.lt;omega
 ·obtain ⟨cs,ho⟩:=h.obk
  rw [<- e] at ho
  exact (h.box.other ho (by decide)) rfl
 ·exact (h.box.other e (by decide)) rfl
theorem OW.ne_r (h:OW w0 wx P N R gw gb f Wt Bs A c L AO cO O) {g:Nat} (hg:isInt wx g):g≠R:=by
 obtain ⟨cs,e⟩:=hg
 exact e.other h.ready.box (by decide)
theorem OW.ne_o (h:OW w0 wx P N R gw gb f Wt Bs A c L AO cO O) {g:Nat} (hg:isInt wx g):g≠gb:=by
 obtain ⟨cs,e⟩:=hg
 obtain ⟨cs',e'⟩:=h.obk
 exact e.other e' (by decide)
theorem OW.gb_r (h:OW w0 wx P N R gw gb f Wt Bs A c L AO cO O):gb≠R:=by
 obtain ⟨cs',e'⟩:=h.obk
 exact e'.other h.ready.box (by decide)
theorem OW.row_r (h:OW w0 wx P N R gw gb f Wt Bs A c L AO cO O) {g:Nat} (hg:blkOf A=some g):isInt wx g∧w0.heap.size<=g∧g<wx.heap.size :=
 ⟨own_int h.ready.row (by rw [own_blk];exact hg),h.ready.row.lt g (by rw [own_blk];exact hg)⟩
theorem OW.waitSet (h:OW w0 wx P N R gw gb f Wt Bs A c L AO cO O) {k:Nat} (v:Nat):OW w0 (wx.setCell ⟨gw,k,none⟩ (.int .i64 (v:Int))) P N R gw gb f (Wt.set k v) Bs A c L AO cO O:=by
 have hc:=Chg.set wx gw k (.int .i64 (v:Int))
 have hi:isInt wx gw:=h.wait.int rfl
 have hn:f gw=0:=h.wait.name gw rfl
 have hl:=h.wait.lt (g:=gw) rfl
 have other:∀ {nm:Nat} {A c l},nm≠0->Row wx w0.heap.size f nm A c l->Row (wx.setCell ⟨gw,k,none⟩ (.int .i64 (v:Int))) w0.heap.size f nm A c l:=fun hne hr=>hr.chg hc (fun g _ hg e=>by rw [e] at hg;omega) (fun _ _=>rfl)
 refine ⟨hc.below h.below (Nat.le_of_lt h.size) (fun k e=>by rw [e];exact hl.1),h.box_chg hc (fun k e=>.inr (.inr (by rw [e];exact hi))),by simpa using h.wl,h.bl,?_,?_,fun j b hj=>other (by omega) (h.inner j b hj),?_,h.rname,other (by omega) h.out,h.lt⟩
 ·refine ⟨?_,h.wait.name⟩
  have hw:=h.wait.own
  have hlen:(Wt.set k v).length=Wt.length:=by simp
  rw [hlen,<- natI_set]
  have:=(hw.stored k (.int .i64 (v:Int))).1
  have e:(ints (natI Wt)).set k (.int .i64 (v:Int))=ints ((natI Wt).set k (v:Int)):=by simp [ints,List.map_set]
  rw [e] at this
  exact this
 ·exact hc.own h.outer fun g hg e=>by
   rw [own_blk] at hg
   injection hg with hg
   exact (h.ne_o hi) (e.symm.trans hg.symm)
 ·exact ⟨hc.blk h.ready.box (fun e=>h.ne_r hi e.symm),hc.own h.ready.row fun g hg e=>by
   rw [own_blk] at hg
   have:=h.rname g hg
   rw [e] at this
   omega⟩
theorem OW.turn (h:OW w0 wx P N R gw gb f Wt Bs A c L AO cO O) (hq:HQ wy w0.heap.size R A' c' (natI L')) (hk:HK wx wy R (blkOf A)) (hs:blkOf A'=blkOf A∨∀ g,blkOf A'=some g->wx.heap.size<=g) :
  OW w0 wy P N R gw gb (named f wx.heap.size 1) Wt Bs A' c' L' AO cO O:=by
 have hc:=Chg.of_hk hk
 have hX:∀ k,(k=R∨some k=blkOf A)->k=R∨(isInt wx k∧f k=1):=fun k e=>e.imp id fun e=>⟨(h.row_r e.symm).1,h.rname k e.symm⟩
 have old:∀ g,g<wx.heap.size->named f wx.heap.size 1 g=f g:=fun g hg=>named_old f hg
 have other:∀ {nm:Nat} {A c l},nm≠1->Row wx w0.heap.size f nm A c l->Row wy w0.heap.size (named f wx.heap.size 1) nm A c l:=fun hne hr=>hr.chg hc (fun g hi hg e=>by
  rcases hX g e with e|⟨-,e⟩
  ·exact h.ne_r hi e
  ·omega) old
 refine ⟨hc.below h.below (Nat.le_of_lt h.size) (fun k e=>?_),h.box_chg hc (fun k e=>(hX k e).imp id fun e=>.inr e.1),h.wl,h.bl,other (by omega) h.wait,?_,fun j b hj=>other (by omega) (h.inner j b hj),hq,?_,other (by omega) h.out,h.lt⟩
 ·rcases e with e|e
  ·rw [e];exact Nat.le_of_lt h.lt
  ·exact (h.row_r e.symm).2.1
 ·exact hc.own h.outer fun g hg e=>by
   injection hg with hg
   subst hg
   rcases hX _ e with e|⟨e,-⟩
   ·exact h.gb_r e
   ·exact h.ne_o e rfl
 ·exact named_new h.rname (fun g hg=>(h.row_r hg).2.2) hs
theorem OW.outTurn (h:OW w0 wx P N R gw gb f Wt Bs A c L AO cO O) (hr:wy.ownsRow w0.heap.size 3 1 (.slice AO' O'.length cO') O'.length (ints (natI O'))) (hg:wx.grownBy wy (blkOf AO)) (hs:blkOf AO'=blkOf AO∨∀ g,blkOf AO'=some g->wx.heap.size<=g) :
  OW w0 wy P N R gw gb (named f wx.heap.size 2) Wt Bs A c L AO' cO' O':=by
 have hc:=Chg.of_grown hg
 have hX:∀ k,some k=blkOf AO->isInt wx k∧f k=2:=fun k e=>⟨h.out.int e.symm,h.out.name k e.symm⟩
 have old:∀ g,g<wx.heap.size->named f wx.heap.size 2 g=f g:=fun g hg=>named_old f hg
 have other:∀ {nm:Nat} {A c l},nm≠2->Row wx w0.heap.size f nm A c l->Row wy w0.heap.size (named f wx.heap.size 2) nm A c l:=fun hne hr=>hr.chg hc (fun g hi hg e=>by have:=(hX g e).2;omega) old
 refine ⟨hc.below h.below (Nat.le_of_lt h.size) (fun k e=>(h.out.lt e.symm).1),h.box_chg hc (fun k e=>.inr (.inr (hX k e).1)),h.wl,h.bl,other (by omega) h.wait,?_,fun j b hj=>other (by omega) (h.inner j b hj),?_,?_,⟨hr,named_new h.out.name (fun g hg=>(h.out.lt hg).2) hs⟩,h.lt⟩
 ·exact hc.own h.outer fun g hg e=>by
   injection hg with hg
   subst hg
   exact h.ne_o (hX _ e).1 rfl
 ·exact ⟨hc.blk h.ready.box (fun e=>h.ne_r (hX _ e).1 rfl),hc.own h.ready.row fun g hg e=>by
   rw [own_blk] at hg
   have h1:=h.rname g hg
   have h2:=(hX g e).2
   omega⟩
 ·intro g hg
  rw [old g (h.row_r hg).2.2]
  exact h.rname g hg
theorem OW.innerTurn (h:OW w0 wx P N R gw gb f Wt Bs A c L AO cO O) {k:Nat} {b b':SN} (hb:Bs[k]? = some b) (hr:wy.ownsRow w0.heap.size 3 1 (rowV b') b'.2.2.length (ints (natI b'.2.2))) (hg:wx.grownBy wy (blkOf b.1)) (hs:blkOf b'.1=blkOf b.1∨∀ g,blkOf b'.1=some g->wx.heap.size<=g) :
  OW w0 (wy.setCell ⟨gb,k,none⟩ (rowV b')) P N R gw gb (named f wx.heap.size (3+k)) Wt (Bs.set k b') A c L AO cO O:=by
 have hc0:=Chg.of_grown hg
 have hc:=hc0.trans (Chg.set wy gb k (rowV b'))
 have hrow:=h.inner k b hb
 have hX0:∀ j,some j=blkOf b.1->isInt wx j∧f j=3+k:=fun j e=>⟨hrow.int e.symm,hrow.name j e.symm⟩
 have old:∀ g,g<wx.heap.size->named f wx.heap.size (3+k) g=f g:=fun g hg=>named_old f hg
 have other:∀ {nm:Nat} {A c l},nm≠3+k->Row wx w0.heap.size f nm A c l->Row (wy.setCell ⟨gb,k,none⟩ (rowV b')) w0.heap.size (named f wx.heap.size (3+k)) nm A c l:=fun hne hr=>hr.chg hc (fun g hi hg e=>by
  rcases e with e|e
  ·have:=(hX0 g e).2;omega
  ·exact h.ne_o hi e) old
 have ho1:wy.ownsRow w0.heap.size 25 1 (.slice (some ⟨gb,0,none⟩) N N) N (Bs.map rowV):=hc0.own h.outer fun g hg e=>by
  injection hg with hg
  subst hg
  exact h.ne_o (hX0 _ e).1 rfl
 obtain ⟨cs,hgb⟩:∃ cs,Blk wy gb 25 cs:=own_int ho1 rfl
 refine ⟨hc.below h.below (Nat.le_of_lt h.size) (fun j e=>?_),h.box_chg hc (fun j e=>?_),h.wl,by simpa using h.bl,other (by omega) h.wait,?_,fun j d hj=>?_,?_,?_,other (by omega) h.out,h.lt⟩
 ·rcases e with e|e
  ·exact (hrow.lt e.symm).1
  ·rw [e];exact h.gbl.1
 ·rcases e with e|e
  ·exact .inr (.inr (hX0 j e).1)
  ·exact .inr (.inl e)
 ·have:=(ho1.stored k (rowV b')).1
  rw [<- List.map_set] at this
  exact this
 ·rw [List.getElem?_set] at hj
  by_cases e:k=j
  ·subst e
   rw [if_pos rfl] at hj
   have hkl:k<Bs.length:=(List.getElem?_eq_some_iff.1 hb).1
   rw [if_pos hkl] at hj
   obtain rfl:=Option.some.inj hj
   refine ⟨?_,named_new hrow.name (fun g hg=>(hrow.lt hg).2) hs⟩
   exact ownsRow_setCell_other hr (a:=⟨gb,k,none⟩) (own_other hr hgb (by decide)) _
  ·rw [if_neg e] at hj
   exact other (by omega) (h.inner j d hj)
 ·exact ⟨hc.blk h.ready.box (fun e=>by
   rcases e with e|e
   ·exact h.ne_r (hX0 _ e).1 rfl
   ·exact h.gb_r e.symm),hc.own h.ready.row fun g hg e=>by
   have hi:=own_int h.ready.row hg
   rw [own_blk] at hg
   have h1:=h.rname g hg
   rcases e with e|e
   ·have h2:=(hX0 g e).2
    omega
   ·exact h.ne_o hi e⟩
 ·intro g hg
  rw [old g (h.row_r hg).2.2]
  exact h.rname g hg
end
end Go.Proofs.YtmkiphadkmodnaaGreat
namespace Go.Proofs.YtmkiphadkmodnaaGreat
open Go.RowKit Topo
def ffAt (bs:List BL) (k:Nat):Bool:=match bs[k]? with|some b=>b.ff|none=>true
def inL (bs:List BL) (k:Nat):List Int:=match bs[k]? with|some b=>b.l|none=>[]
theorem ffAt_lt {bs:List BL} {k:Nat} (h:ffAt bs k=false):k<bs.length:=by
 unfold ffAt at h
 by_cases hk:k<bs.length
 ·exact hk
 ·rw [List.getElem?_eq_none (by omega)] at h;cases h
theorem ffAt_get {bs:List BL} {k:Nat} (h:k<bs.length):ffAt bs k=bs[k].ff:=by unfold ffAt;rw [List.getElem?_eq_getElem h]
theorem inL_get {bs:List BL} {k:Nat} (h:k<bs.length):inL bs k=bs[k].l:=by unfold inL;rw [List.getElem?_eq_getElem h]
def edOf (I:Int) (bs:List BL) (i:Nat) (x:Int):List (Nat × Nat):=if 0<=x-I∧ffAt bs (x-I).toNat=false then [((x-I).toNat,i)] else []
def edB (I:Int) (bs:List BL) (i:Nat) (l:List Int):List (Nat × Nat):=l.flatMap (edOf I bs i)
def edTo (I:Int) (bs:List BL):Nat->List (Nat × Nat)
 | 0=>[]
 | i+1=>edTo I bs i++(if ffAt bs i=true then [] else edB I bs i (inL bs i))
def PK.E (P:PK):List (Nat × Nat):=edTo P.I P.bs P.bs.length
def PK.S (P:PK) (k:Nat):Prop:=ffAt P.bs k=false
instance (P:PK):DecidablePred P.S:=fun k=>by unfold PK.S;infer_instance
theorem PK.S_lt {P:PK} {k:Nat} (h:P.S k):k<P.bs.length:=ffAt_lt h
theorem edB_snd {I:Int} {bs:List BL} {i:Nat} {l:List Int}:∀ e ∈ edB I bs i l,e.2=i:=by
 intro e he
 obtain ⟨x,-,hx⟩:=List.mem_flatMap.1 he
 unfold edOf at hx
 split at hx
 ·rw [List.mem_singleton.1 hx]
 ·cases hx
theorem edB_fst {I:Int} {bs:List BL} {i:Nat} {l:List Int}:∀ e ∈ edB I bs i l,ffAt bs e.1=false:=by
 intro e he
 obtain ⟨x,-,hx⟩:=List.mem_flatMap.1 he
 unfold edOf at hx
 split at hx
 ·next h=>rw [List.mem_singleton.1 hx];exact h.2
 ·cases hx
theorem edTo_snd {I:Int} {bs:List BL}:∀ (k:Nat),∀ e ∈ edTo I bs k,e.2<k∧ffAt bs e.2=false∧ffAt bs e.1=false
 | 0=>fun e he=>by cases he
 | k+1=>fun e he=>by
  rcases List.mem_append.1 he with h|h
  ·obtain ⟨h1,h2⟩:=edTo_snd k e h
   exact ⟨by omega,h2⟩
  ·by_cases hf:ffAt bs k=true
   ·rw [if_pos hf] at h;cases h
   ·rw [if_neg hf] at h
    have:=edB_snd e h
    exact ⟨by omega,by rw [this];simpa using hf,edB_fst e h⟩
structure Ed (N:Nat) (bs:List BL) (i:Nat) (E:List (Nat × Nat)) (Wt:List Nat) (Bs:List SN) (L:List Nat):Prop where
 wt:∀ b,b<N->Wt.getD b 0=cnt E [] b
 rows:∀ k b,Bs[k]? = some b->b.2.2=beh E k
 nd:L.Nodup
 rd:∀ b,b ∈ L↔b<i∧ffAt bs b=false∧cnt E [] b=0
 hi:∀ b,i<b->cnt E [] b=0
theorem Ed.start (N:Nat) (bs:List BL):Ed N bs 0 [] (List.replicate N 0) (List.replicate N (none,0,[])) []:=by
 refine ⟨fun b hb=>?_,fun k b hk=>?_,List.nodup_nil,fun b=>?_,fun b _=>rfl⟩
 ·simp [List.getD_eq_getElem?_getD,hb,cnt]
 ·have:=(List.mem_replicate.1 (List.mem_of_getElem? hk)).2
  rw [this];rfl
 ·simp
theorem Ed.edge {N i k:Nat} {bs:List BL} {E:List (Nat × Nat)} {Wt:List Nat} {Bs:List SN} {L:List Nat} (h:Ed N bs i E Wt Bs L) (hN:Wt.length=N) (hi:i<N) {v:Nat} (hv:v=cnt E [] i+1) {b b':SN} (hb:Bs[k]? = some b) (hb':b'.2.2=b.2.2++[i]) :
  Ed N bs i (E++[(k,i)]) (Wt.set i v) (Bs.set k b') L:=by
 refine ⟨fun j hj=>?_,fun j d hj=>?_,h.nd,fun j=>?_,fun j hj=>?_⟩
 ·rw [getD_setN Wt i j (by omega),cnt_snoc]
  by_cases e:i=j
  ·subst e;rw [if_pos rfl,if_pos rfl,hv]
  ·rw [if_neg e,if_neg (fun x=>e x.symm)];exact h.wt j hj
 ·rw [beh_snoc]
  rw [List.getElem?_set] at hj
  by_cases e:k=j
  ·subst e
   rw [if_pos rfl,if_pos (List.getElem?_eq_some_iff.1 hb).1] at hj
   obtain rfl:=Option.some.inj hj
   rw [if_pos rfl,hb',h.rows k b hb]
  ·rw [if_neg e] at hj
   rw [if_neg (fun x=>e x.symm)]
   exact h.rows j d hj
 ·rw [cnt_snoc]
  constructor
  ·intro hm
   obtain ⟨h1,h2,h3⟩:=(h.rd j).1 hm
   exact ⟨h1,h2,by rw [if_neg (by omega)];exact h3⟩
  ·rintro ⟨h1,h2,h3⟩
   rw [if_neg (by omega)] at h3
   exact (h.rd j).2 ⟨h1,h2,h3⟩
 ·rw [cnt_snoc,if_neg (by omega)]
  exact h.hi j hj
theorem Ed.skip {N i:Nat} {bs:List BL} {E:List (Nat × Nat)} {Wt:List Nat} {Bs:List SN} {L:List Nat} (h:Ed N bs i E Wt Bs L) (hf:ffAt bs i=true∨cnt E [] i≠0):Ed N bs (i+1) E Wt Bs L:=by
 refine ⟨h.wt,h.rows,h.nd,fun b=>?_,fun b hb=>h.hi b (by omega)⟩
 rw [h.rd b]
 constructor
 ·rintro ⟨h1,h2⟩;exact ⟨by omega,h2⟩
 ·rintro ⟨h1,h2,h3⟩
  refine ⟨?_,h2,h3⟩
  have:b≠i:=fun e=>by
   subst e
   rcases hf with hf|hf
   ·rw [hf] at h2;cases h2
   ·exact hf h3
  omega
theorem Ed.ready {N i:Nat} {bs:List BL} {E:List (Nat × Nat)} {Wt:List Nat} {Bs:List SN} {L L':List Nat} (h:Ed N bs i E Wt Bs L) (hf:ffAt bs i=false) (hz:cnt E [] i=0) (hp:L'.Perm (L++[i])):Ed N bs (i+1) E Wt Bs L':=by
 refine ⟨h.wt,h.rows,?_,fun b=>?_,fun b hb=>h.hi b (by omega)⟩
 ·refine (hp.nodup_iff).2 ?_
  rw [List.nodup_append]
  refine ⟨h.nd,by simp,fun x hx y hy e=>?_⟩
  rw [List.mem_singleton.1 hy] at e
  have:=((h.rd x).1 hx).1
  omega
 ·rw [hp.mem_iff,List.mem_append,h.rd b,List.mem_singleton]
  constructor
  ·rintro (⟨h1,h2⟩|rfl)
   ·exact ⟨by omega,h2⟩
   ·exact ⟨by omega,hf,hz⟩
  ·rintro ⟨h1,h2,h3⟩
   by_cases e:b=i
   ·exact .inr e
   ·exact .inl ⟨by omega,h2,h3⟩
theorem Ed.st {P:PK} {Wt:List Nat} {Bs:List SN} {L:List Nat} (h:Ed P.bs.length P.bs P.bs.length P.E Wt Bs L) (hl:Wt.length=P.bs.length):St P.E P.S P.bs.length [] L Wt []:=by
 refine St.init hl h.nd (fun b=>?_) (fun b hb=>h.wt b (PK.S_lt hb))
 rw [h.rd b]
 constructor
 ·rintro ⟨h1,h2,h3⟩;exact ⟨h2,by rw [h.wt b h1];exact h3⟩
 ·rintro ⟨h1,h2⟩
  have hb:=PK.S_lt h1
  exact ⟨hb,h1,by rw [<- h.wt b hb];exact h2⟩
def manyTo (bs:List BL) (k:Nat):Nat:=((List.range k).filter fun b=>decide (ffAt bs b=false)).length
theorem manyTo_next (bs:List BL) (k:Nat):manyTo bs (k+1)=manyTo bs k+if ffAt bs k=true then 0 else 1:=by
 unfold manyTo
 rw [List.range_succ,List.filter_append,List.length_append]
 cases h:ffAt bs k <;> simp [h]
theorem manyTo_le (bs:List BL) (k:Nat):manyTo bs k<=k:=by
 unfold manyTo
 exact Nat.le_trans (List.length_filter_le _ _) (by simp)
theorem beh_S {P:PK} {i k:Nat} (h:k ∈ beh P.E i):P.S k:=by
 have:=edTo_snd _ _ (mem_beh.1 h)
 exact this.2.1
theorem St.len_le {P:PK} {out ready waits rest:List Nat} (h:St P.E P.S P.bs.length out ready waits rest):(out++ready).length<=P.bs.length:=by
 have:=sub_len (m:=List.range P.bs.length) h.nd fun x hx=>by
  rcases List.mem_append.1 hx with hx|hx
  ·exact List.mem_range.2 (PK.S_lt (h.part.mem x hx))
  ·exact List.mem_range.2 (PK.S_lt (h.rd x hx).1)
 simpa using this
theorem order_all {P:PK} {out waits:List Nat} (h:St P.E P.S P.bs.length out [] waits []) (hl:¬ out.length<manyTo P.bs P.bs.length):All (depE P.E) P.S out:=by
 refine h.part.all_of_len (n:=P.bs.length) (fun b hb=>PK.S_lt hb) ?_
 have h1:out.length<=manyTo P.bs P.bs.length:=sub_len h.part.nodup fun x hx=>List.mem_filter.2 ⟨List.mem_range.2 (PK.S_lt (h.part.mem x hx)),decide_eq_true (h.part.mem x hx)⟩
 have e:((List.range P.bs.length).filter fun b=>decide (P.S b)).length=manyTo P.bs P.bs.length:=rfl
 omega
theorem order_none {P:PK} {out waits:List Nat} (h:St P.E P.S P.bs.length out [] waits []) (hl:out.length<manyTo P.bs P.bs.length) (m:List Nat):¬ All (depE P.E) P.S m:=fun hm=>by
 have:=(h.done hm).len (n:=P.bs.length) (fun b hb=>PK.S_lt hb)
 unfold manyTo at hl
 have e:((List.range P.bs.length).filter fun b=>decide (P.S b))=((List.range P.bs.length).filter fun b=>decide (ffAt P.bs b=false)):=rfl
 rw [e] at this
 omega
end Go.Proofs.YtmkiphadkmodnaaGreat
