/- BfM, 13 -/
import Derived.BigQuiet
import Derived.Deep.QuietTactic
import Derived.Test.YtmkiphadkmodnaaGreatZBfM12
import Derived.Test.YtmkiphadkmodnaaGreatZBfM8
import Derived.Test.YtmkiphadkmodnaaGreatZBfM0
set_option linter.all false
set_option maxRecDepth 100000
set_option maxHeartbeats 8000000
namespace Go.Proofs.YtmkiphadkmodnaaGreat
open Go.RowKit
theorem rswitches_yes (W H T:Int) (w:World) (h:okA W H T) :
  Calls Tryz.prog 28 #[.agg #[.int .i64 W,.int .i64 H,.int .i64 T]] w fun e w'=>e=.returned (.int .i64 ((edgesL W H T).length:Int))∧Below w.heap.size w w':=by
 have Q0:=bn_ w (.cells #[.int .i64 W,.int .i64 H,.int .i64 T] 23)
 have HO:=hd_ h
 clear h
 go_enter Tryz.func28,Tryz.ntmps28
 go_wp2_with fail
 refine (redges_yes _ _ _ _ HO.out).mono ?_
 rintro e w1 ⟨v,rfl,hb1,hown⟩
 obtain ⟨AA,c,hv⟩:=own_slice hown
 subst hv
 have Q1:=bt_ Q0 hb1
 clear hb1 hown
 go_wp2_with fail
 go_ret
 exact ⟨rfl,Q1⟩
theorem pads_next {m:Int} {l:List Int} {i:Nat} (h:padsOk m (l.take i)) (hi:i<l.length) (h0:0<=l.getD i 0) (h1:l.getD i 0<m) (hd:∀ q,q<i->l.getD q 0≠l.getD i 0):padsOk m (l.take (i+1)):=by
 have e:l.getD i 0=l[i]:=by rw [List.getD_eq_getElem?_getD,List.getElem?_eq_getElem hi];rfl
 rw [e] at h0 h1 hd
 rw [List.take_succ_eq_append_getElem hi]
 refine ⟨fun p hp=>?_,?_⟩
 ·rcases List.mem_append.1 hp with hp|hp
  ·exact h.1 p hp
  ·simp at hp;subst hp;exact ⟨h0,h1⟩
 ·rw [List.nodup_append]
  refine ⟨h.2,by simp,fun a ha b hb hab=>?_⟩
  simp at hb
  subst hb
  subst hab
  obtain ⟨q,hq,e2⟩:=List.mem_iff_getElem.1 ha
  rw [List.length_take] at hq
  refine hd q (by omega) ?_
  rw [List.getD_eq_getElem?_getD,List.getElem?_eq_getElem (show q<l.length by omega)]
  rw [List.getElem_take] at e2
  exact e2
theorem pads_out {m:Int} {l:List Int} {i:Nat} (hi:i<l.length) (h:l.getD i 0<0∨m<=l.getD i 0):¬ padsOk m l:=by
 have e:l.getD i 0=l[i]:=by rw [List.getD_eq_getElem?_getD,List.getElem?_eq_getElem hi];rfl
 rw [e] at h
 intro hp
 have:=hp.1 l[i] (List.getElem_mem hi)
 omega
theorem pads_twice {m:Int} {l:List Int} {i q:Nat} (hi:i<l.length) (hq:q<i) (h:l.getD q 0=l.getD i 0):¬ padsOk m l:=by
 intro hp
 rw [List.getD_eq_getElem?_getD,List.getD_eq_getElem?_getD,List.getElem?_eq_getElem hi,List.getElem?_eq_getElem (show q<l.length by omega)] at h
 exact List.pairwise_iff_getElem.1 hp.2 q i (by omega) hi hq h
end Go.Proofs.YtmkiphadkmodnaaGreat
