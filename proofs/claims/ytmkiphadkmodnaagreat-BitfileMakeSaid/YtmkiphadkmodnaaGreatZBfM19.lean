/- BfM, 19 -/
import Derived.Test.YtmkiphadkmodnaaGreatZBfM18
import Derived.Test.YtmkiphadkmodnaaGreatZBfM7
import Derived.Test.YtmkiphadkmodnaaGreatZBfM0
set_option linter.all false
set_option maxRecDepth 100000
set_option maxHeartbeats 8000000
namespace Go.Proofs.YtmkiphadkmodnaaGreat
open Go.RowKit
theorem getT_eq {l:List TL} {q:Nat} (h:q<l.length):l.getD q (0,false,false)=l[q]!:=by
 rw [List.getD_eq_getElem?_getD,List.getElem?_eq_getElem h,getElem!_pos l q h];rfl
theorem eqT_any (w:World) (A B:Option Addr) (n m c d:Nat) (l k:List TL) (ha:Rd w 3 A n c (tiles3 l)) (hb:Rd w 3 B m d (tiles3 k)) (hn:n<=100000000) (hm:m<=100000000) (r:Bool) (hr:decide (l=k)=r) :
  Calls Tryz.prog 42 #[.slice A n c,.slice B m d] w fun e w'=>e=.returned (.bool r)∧Below w.heap.size w w':=by
 have hln:l.length=n:=by have:=ha.len;rw [tiles3_length] at this;omega
 have hkm:k.length=m:=by have:=hb.len;rw [tiles3_length] at this;omega
 by_cases hnm:n=m
 ·obtain rfl:=hnm
  have HA:=hd_ ha
  have HB:=hd_ hb
  have HLN:=hd_ hln
  have HKM:=hd_ hkm
  clear ha hb hln hkm hm
  have HR:=hd_ hr
  clear hr
  go_enter Tryz.func42,Tryz.ntmps42
  go_wp2_with fail
  go_loopw [13] (fun i wx=>∃ q:Nat,q<=n∧i=.int .i64 (q:Int)∧l.take q=k.take q∧Below w.heap.size w wx) (fun i _=>n-(intOf i).toNat)
  case atStart=>exact ⟨0,by omega,rfl,by simp,br_⟩
  case round =>
   obtain ⟨q,hq,rfl,htk,hbb⟩:=hrel
   have HBB:=hd_ hbb
   have HTK:=hd_ htk
   clear hbb htk
   by_cases hlt:q<n
   ·obtain ⟨a,rfl,-,c0,c1,c2⟩:=(HA.out.later HBB.out).tile (k:=q) hlt
    obtain ⟨b,rfl,-,d0,d1,d2⟩:=(HB.out.later HBB.out).tile (k:=q) hlt
    have h0:(0:Int)<=(q:Int):=by omega
    have h1:(q:Int)<(n:Int):=by omega
    by_cases he:l[q]! = k[q]!
    ·have HNX:=hd_ (take_eq_next (0,false,false) (by rw [HLN.out];exact hlt) (by rw [HKM.out];exact hlt) HTK.out (by rw [getT_eq (by rw [HLN.out];exact hlt),getT_eq (by rw [HKM.out];exact hlt)];exact he))
     rw [he] at c0 c1 c2
     clear he
     generalize k[q]! = z at c0 c1 c2 d0 d1 d2
     obtain ⟨z0,z1,z2⟩:=z
     simp only at c0 c1 c2 d0 d1 d2
     go_wp2_with fail
     go_quiet (fail)
     go_wp2_with fail
     go_roundw
     case rel=>exact ⟨q+1,by omega,by go_num,HNX.out,below_drewN HBB.out _⟩
     case measure=>simp [intOf];omega
    ·obtain rfl:r=false:=by rw [<- HR.out];exact decide_eq_false (fun e=>he (by rw [e]))
     generalize l[q]! = y at c0 c1 c2 he
     generalize k[q]! = z at d0 d1 d2 he
     obtain ⟨y0,y1,y2⟩:=y
     obtain ⟨z0,z1,z2⟩:=z
     simp only at c0 c1 c2 d0 d1 d2
     by_cases e0:y0=z0
     ·subst e0
      by_cases e1:y1=z1
      ·subst e1
       have e2:y2≠z2:=fun e=>he (by rw [e])
       have hd:(y2==z2)=false:=beq_eq_false_iff_ne.2 e2
       clear he e2
       go_wp2_with fail
       go_quiet (fail)
       go_wp2_with fail
       go_ret
       exact ⟨rfl,below_drewN HBB.out _⟩
      ·have hd:(y1==z1)=false:=beq_eq_false_iff_ne.2 e1
       clear he e1
       go_wp2_with fail
       go_quiet (fail)
       go_wp2_with fail
       go_ret
       exact ⟨rfl,below_drewN HBB.out _⟩
     ·have hd:(y0==z0)=false:=beq_eq_false_iff_ne.2 e0
      clear he e0
      go_wp2_with fail
      go_quiet (fail)
      go_wp2_with fail
      go_ret
      exact ⟨rfl,below_drewN HBB.out _⟩
   ·obtain rfl:q=n:=by omega
    have hlk:l=k:=by have:=HTK.out;rwa [List.take_of_length_le (by rw [HLN.out];omega),List.take_of_length_le (by rw [HKM.out];omega)] at this
    obtain rfl:r=true:=by rw [<- HR.out];exact decide_eq_true hlk
    clear hlk
    go_wp2_with fail
    go_ret
    exact ⟨rfl,HBB.out⟩
 ·obtain rfl:r=false:=by rw [<- hr];exact decide_eq_false (show ¬ l=k from fun e=>hnm (by rw [<- hln,<- hkm,e]))
  have hd:((n:Int) != (m:Int))=true:=by rw [bne_iff_ne];omega
  clear hnm ha hb hln hkm hr
  go_enter Tryz.func42,Tryz.ntmps42
  go_wp2_with fail
  go_ret
  exact ⟨rfl,br_⟩
end Go.Proofs.YtmkiphadkmodnaaGreat
