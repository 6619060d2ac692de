/- BfM, 11 -/
import Derived.Test.YtmkiphadkmodnaaGreatZBfM5
import Derived.Test.YtmkiphadkmodnaaGreatZBfM6
import Derived.Test.YtmkiphadkmodnaaGreatZBfM10
import Derived.Test.YtmkiphadkmodnaaGreatZBfM0
set_option linter.all false
set_option maxRecDepth 100000
set_option maxHeartbeats 8000000
namespace Go.Proofs.YtmkiphadkmodnaaGreat
open Go.Sort Go.Shelf Go.Lib
theorem edgesL_mem {W H T:Int} {p:Int × Int}:p ∈ edgesL W H T↔p ∈ rawL W H T:=by
 unfold edgesL sortP
 exact List.mem_mergeSort
theorem edgesL_nodup {W H T:Int} (h:okA W H T):(edgesL W H T).Nodup:=by
 unfold edgesL sortP
 exact (List.mergeSort_perm _ _).nodup_iff.2 (rawL_nodup h)
def before (x y:Int × Int):Prop:=x.1<y.1∨x.1=y.1∧x.2<y.2
theorem edgesL_le {W H T:Int}:(edgesL W H T).Pairwise fun x y=>¬ before y x:=by
 have:=List.pairwise_mergeSort (le:=fun x y=>!(ltOf pcmp) y x) (fun a b c h1 h2=>by
   simp only [pcmp_lt,Bool.not_eq_true',decide_eq_false_iff_not] at *
   omega) (fun a b=>by
   simp only [pcmp_lt]
   by_cases c:b.1<a.1∨b.1=a.1∧b.2<a.2
   ·have:¬ (a.1<b.1∨a.1=b.1∧a.2<b.2):=by omega
    simp [this]
   ·simp [c]) (rawL W H T)
 refine this.imp fun {a b} h=>?_
 simp only [pcmp_lt,Bool.not_eq_true',decide_eq_false_iff_not] at h
 exact h
theorem edgesL_lt {W H T:Int} (h:okA W H T):(edgesL W H T).Pairwise before:=by
 refine (List.pairwise_and_iff.2 ⟨edgesL_le,edgesL_nodup h⟩).imp fun {a b} hab=>?_
 obtain ⟨h1,h2⟩:=hab
 unfold before at *
 by_cases e:a.1=b.1
 ·by_cases f:a.2=b.2
  ·exact absurd (Prod.ext e f) h2
  ·omega
 ·omega
theorem edges_nodes {W H T:Int} (h:okA W H T) {p:Int × Int} (hp:p ∈ edgesL W H T):isN W H T p.1∧isN W H T p.2:=by
 rcases rawL_mem h (edgesL_mem.1 hp) with ⟨a1,a2,a3,a4,a5⟩|⟨a1,a2,a3,a4,a5,a6⟩
 ·exact ⟨a1,a4⟩
 ·exact ⟨a2,a3⟩
end Go.Proofs.YtmkiphadkmodnaaGreat
namespace Go.Proofs.YtmkiphadkmodnaaGreat
theorem upL_lt {M:List Int} (h:M.Pairwise (·<·)) (n k:Nat):(upL M n k).Pairwise before:=by
 unfold upL
 refine List.Pairwise.map _ (fun a b hab=>?_) (List.Pairwise.filter _ (h.sublist (List.take_sublist k M)))
 exact .inr ⟨rfl,hab⟩
theorem pairsTo_lt {M:Nat->List Int} (h:∀ i,(M i).Pairwise (·<·)):∀ n,(pairsTo M n).Pairwise before
 | 0=>by simp [pairsTo]
 | n+1=>by
  simp only [pairsTo]
  rw [List.pairwise_append]
  refine ⟨pairsTo_lt h n,upL_lt (h n) n _,fun a ha b hb=>?_⟩
  obtain ⟨j,h1,h2,-⟩:=mem_pairsTo.1 ha
  have h3:=(mem_upL.1 hb).1
  exact .inl (by omega)
theorem sorted_ext {α:Type} {R:α->α->Prop} (irr:∀ a,¬ R a a) (asym:∀ a b,R a b->¬ R b a):∀ {l m:List α},l.Pairwise R->m.Pairwise R->(∀ a,a ∈ l↔a ∈ m)->l=m
 | [],[],_,_,_=>rfl
 | [],b::m,_,_,h=>by have:=(h b).2 (by simp);simp at this
 | a::l,[],_,_,h=>by have:=(h a).1 (by simp);simp at this
 | a::l,b::m,hl,hm,h=>by
  have hl':=List.pairwise_cons.1 hl
  have hm':=List.pairwise_cons.1 hm
  have e:a=b:=by
   rcases List.mem_cons.1 ((h a).1 (by simp)) with e|e
   ·exact e
   ·rcases List.mem_cons.1 ((h b).2 (by simp)) with e'|e'
    ·exact e'.symm
    ·exact absurd (hl'.1 b e') (asym _ _ (hm'.1 a e))
  subst e
  congr 1
  refine sorted_ext irr asym hl'.2 hm'.2 fun x=>?_
  have hx:=h x
  simp only [List.mem_cons] at hx
  constructor
  ·intro hx1
   rcases hx.1 (.inr hx1) with e|e
   ·subst e;exact absurd (hl'.1 x hx1) (irr x)
   ·exact e
  ·intro hx1
   rcases hx.2 (.inr hx1) with e|e
   ·subst e;exact absurd (hm'.1 x hx1) (irr x)
   ·exact e
theorem pairs_edges {W H T:Int} (h:okA W H T) {N:Nat} (hN:nodesI W H T=(N:Int)):pairsTo (nearTo W H T N) N=edgesL W H T:=by
 refine sorted_ext (R:=before) (fun a ha=>by unfold before at ha;omega) (fun a b h1 h2=>by unfold before at *;omega) (pairsTo_lt (nearTo_sorted W H T N) N) (edgesL_lt h) fun p=>?_
 rw [mem_pairsTo,edgesL_mem]
 constructor
 ·rintro ⟨j,h1,h2,h3,h4⟩
  rcases (near_iff h hN h1).1 h4 with hp|hp
  ·rw [<- h2] at hp;exact hp
  ·have:=(rawL_sw h hp).2.1
   simp only at this
   omega
 ·intro hp
  obtain ⟨a1,a2,a3⟩:=rawL_sw h hp
  have h0:=a1.2
  refine ⟨p.1.toNat,by omega,by omega,a2,(near_iff h hN (by omega)).2 (.inl ?_)⟩
  rw [Int.toNat_of_nonneg h0.1];exact hp
end Go.Proofs.YtmkiphadkmodnaaGreat
namespace Go.Proofs.YtmkiphadkmodnaaGreat
open Go.RowKit
end Go.Proofs.YtmkiphadkmodnaaGreat
namespace Go.Proofs.YtmkiphadkmodnaaGreat
open Go.RowKit
theorem own_drewN {w:World} {base:Nat} {e:TypeId} {size:Nat} {v:Value} {n:Nat} {xs:List Value} (h:w.ownsRow base e size v n xs) (k:Nat):(w.drewN k).ownsRow base e size v n xs:=h
end Go.Proofs.YtmkiphadkmodnaaGreat
