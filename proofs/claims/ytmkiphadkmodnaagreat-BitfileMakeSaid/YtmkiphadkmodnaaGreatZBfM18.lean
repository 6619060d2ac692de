/- BfM, 18 -/
import Derived.BigQuiet
import Derived.Deep.QuietTactic
import Derived.IntWalk
import Derived.Test.YtmkiphadkmodnaaGreatZBfM0
set_option linter.all false
set_option maxRecDepth 100000
set_option maxHeartbeats 8000000
namespace Go.Proofs.YtmkiphadkmodnaaGreat
open Go.RowKit
theorem take_eq_next {α:Type} {l k:List α} {q:Nat} (d:α) (hl:q<l.length) (hk:q<k.length) (h:l.take q=k.take q) (he:l.getD q d=k.getD q d):l.take (q+1)=k.take (q+1):=by
 rw [List.take_succ_eq_append_getElem hl,List.take_succ_eq_append_getElem hk,h]
 simp only [List.getD_eq_getElem?_getD,List.getElem?_eq_getElem hl,List.getElem?_eq_getElem hk,Option.getD_some] at he
 rw [he]
theorem ne_of_getD {α:Type} {l k:List α} {q:Nat} (d:α) (he:¬ l.getD q d=k.getD q d):¬ l=k:=fun e=>he (by rw [e])
theorem eqB_any (w:World) (A B:Option Addr) (n m c d:Nat) (l k:List Bool) (ha:Rd w 1 A n c (bools l)) (hb:Rd w 1 B m d (bools k)) (hn:n<=100000000) (hm:m<=100000000) (r:Bool) (hr:decide (l=k)=r) :
  Calls Tryz.prog 43 #[.slice A n c,.slice B m d] w fun e w'=>e=.returned (.bool r)∧Below w.heap.size w w':=by
 have hln:l.length=n:=by have:=ha.len;rw [bools_length] at this;omega
 have hkm:k.length=m:=by have:=hb.len;rw [bools_length] at this;omega
 by_cases hnm:n=m
 ·obtain rfl:=hnm
  have HA:=hd_ ha
  have HB:=hd_ hb
  have HLN:=hd_ hln
  have HKM:=hd_ hkm
  clear ha hb hln hkm hm
  have HR:=hd_ hr
  clear hr
  go_enter Tryz.func43,Tryz.ntmps43
  go_wp2_with fail
  go_loopw [13] (fun i wx=>∃ q:Nat,q<=n∧i=.int .i64 (q:Int)∧l.take q=k.take q∧Below w.heap.size w wx) (fun i _=>n-(intOf i).toNat)
  case atStart=>exact ⟨0,by omega,rfl,by simp,br_⟩
  case round =>
   obtain ⟨q,hq,rfl,htk,hbb⟩:=hrel
   have HBB:=hd_ hbb
   have HTK:=hd_ htk
   clear hbb htk
   by_cases hlt:q<n
   ·obtain ⟨a,rfl,-,c0⟩:=(HA.out.later HBB.out).bool hlt
    obtain ⟨b,rfl,-,c1⟩:=(HB.out.later HBB.out).bool hlt
    have h0:(0:Int)<=(q:Int):=by omega
    have h1:(q:Int)<(n:Int):=by omega
    by_cases he:l.getD q false=k.getD q false
    ·have HNX:=hd_ (take_eq_next false (by rw [HLN.out];exact hlt) (by rw [HKM.out];exact hlt) HTK.out he)
     rw [he] at c0
     clear he
     generalize k.getD q false=z at c0 c1
     go_wp2_with fail
     go_quiet (fail)
     go_wp2_with fail
     go_roundw
     case rel=>exact ⟨q+1,by omega,by go_num,HNX.out,below_drewN HBB.out _⟩
     case measure=>simp [intOf];omega
    ·obtain rfl:r=false:=by rw [<- HR.out];exact decide_eq_false (ne_of_getD false he)
     generalize l.getD q false=y at c0 he
     generalize k.getD q false=z at c1 he
     have hd:(!(y==z))=true:=by simpa using he
     clear he
     go_wp2_with fail
     go_quiet (fail)
     go_wp2_with fail
     go_ret
     exact ⟨rfl,below_drewN HBB.out _⟩
   ·obtain rfl:q=n:=by omega
    have hlk:l=k:=by have:=HTK.out;rwa [List.take_of_length_le (by rw [HLN.out];omega),List.take_of_length_le (by rw [HKM.out];omega)] at this
    obtain rfl:r=true:=by rw [<- HR.out];exact decide_eq_true hlk
    clear hlk
    go_wp2_with fail
    go_ret
    exact ⟨rfl,HBB.out⟩
 ·obtain rfl:r=false:=by rw [<- hr];exact decide_eq_false (show ¬ l=k from fun e=>hnm (by rw [<- hln,<- hkm,e]))
  have hd:((n:Int) != (m:Int))=true:=by rw [bne_iff_ne];omega
  clear hnm ha hb hln hkm hr
  go_enter Tryz.func43,Tryz.ntmps43
  go_wp2_with fail
  go_ret
  exact ⟨rfl,br_⟩
theorem eqI_any (w:World) (A B:Option Addr) (n m c d:Nat) (l k:List Int) (ha:Rd w 1 A n c (ints l)) (hb:Rd w 1 B m d (ints k)) (hn:n<=100000000) (hm:m<=100000000) (r:Bool) (hr:decide (l=k)=r) :
  Calls Tryz.prog 44 #[.slice A n c,.slice B m d] w fun e w'=>e=.returned (.bool r)∧Below w.heap.size w w':=by
 have hln:l.length=n:=by have:=ha.len;rw [ints_length] at this;omega
 have hkm:k.length=m:=by have:=hb.len;rw [ints_length] at this;omega
 by_cases hnm:n=m
 ·obtain rfl:=hnm
  have HA:=hd_ ha
  have HB:=hd_ hb
  have HLN:=hd_ hln
  have HKM:=hd_ hkm
  clear ha hb hln hkm hm
  have HR:=hd_ hr
  clear hr
  go_enter Tryz.func44,Tryz.ntmps44
  go_wp2_with fail
  go_loopw [13] (fun i wx=>∃ q:Nat,q<=n∧i=.int .i64 (q:Int)∧l.take q=k.take q∧Below w.heap.size w wx) (fun i _=>n-(intOf i).toNat)
  case atStart=>exact ⟨0,by omega,rfl,by simp,br_⟩
  case round =>
   obtain ⟨q,hq,rfl,htk,hbb⟩:=hrel
   have HBB:=hd_ hbb
   have HTK:=hd_ htk
   clear hbb htk
   by_cases hlt:q<n
   ·obtain ⟨a,rfl,-,c0⟩:=(HA.out.later HBB.out).int hlt
    obtain ⟨b,rfl,-,c1⟩:=(HB.out.later HBB.out).int hlt
    have h0:(0:Int)<=(q:Int):=by omega
    have h1:(q:Int)<(n:Int):=by omega
    by_cases he:l.getD q 0=k.getD q 0
    ·have HNX:=hd_ (take_eq_next 0 (by rw [HLN.out];exact hlt) (by rw [HKM.out];exact hlt) HTK.out he)
     rw [he] at c0
     clear he
     generalize k.getD q 0=z at c0 c1
     go_wp2_with fail
     go_quiet (fail)
     go_wp2_with fail
     go_roundw
     case rel=>exact ⟨q+1,by omega,by go_num,HNX.out,below_drewN HBB.out _⟩
     case measure=>simp [intOf];omega
    ·obtain rfl:r=false:=by rw [<- HR.out];exact decide_eq_false (ne_of_getD 0 he)
     generalize l.getD q 0=y at c0 he
     generalize k.getD q 0=z at c1 he
     have hd:(y != z)=true:=by simpa using he
     clear he
     go_wp2_with fail
     go_quiet (fail)
     go_wp2_with fail
     go_ret
     exact ⟨rfl,below_drewN HBB.out _⟩
   ·obtain rfl:q=n:=by omega
    have hlk:l=k:=by have:=HTK.out;rwa [List.take_of_length_le (by rw [HLN.out];omega),List.take_of_length_le (by rw [HKM.out];omega)] at this
    obtain rfl:r=true:=by rw [<- HR.out];exact decide_eq_true hlk
    clear hlk
    go_wp2_with fail
    go_ret
    exact ⟨rfl,HBB.out⟩
 ·obtain rfl:r=false:=by rw [<- hr];exact decide_eq_false (show ¬ l=k from fun e=>hnm (by rw [<- hln,<- hkm,e]))
  have hd:((n:Int) != (m:Int))=true:=by rw [bne_iff_ne];omega
  clear hnm ha hb hln hkm hr
  go_enter Tryz.func44,Tryz.ntmps44
  go_wp2_with fail
  go_ret
  exact ⟨rfl,br_⟩
theorem rBools_any (w:World) (A B:Option Addr) (n m c d:Nat) (l k:List Bool) (ha:Rd w 1 A n c (bools l)) (hb:Rd w 1 B m d (bools k)) (hn:n<=100000000) (hm:m<=100000000) (r:Bool) (hr:decide (l=k)=r) :
  Calls Tryz.prog 29 #[.slice A n c,.slice B m d] w fun e w'=>e=.returned (.bool r)∧Below w.heap.size w w':=by
 have hln:l.length=n:=by have:=ha.len;rw [bools_length] at this;omega
 have hkm:k.length=m:=by have:=hb.len;rw [bools_length] at this;omega
 by_cases hnm:n=m
 ·obtain rfl:=hnm
  have HA:=hd_ ha
  have HB:=hd_ hb
  have HLN:=hd_ hln
  have HKM:=hd_ hkm
  clear ha hb hln hkm hm
  have HR:=hd_ hr
  clear hr
  go_enter Tryz.func29,Tryz.ntmps29
  go_wp2_with fail
  go_loopw [5] (fun i wx=>∃ q:Nat,q<=n∧i=.int .i64 (q:Int)∧l.take q=k.take q∧Below w.heap.size w wx) (fun i _=>n-(intOf i).toNat)
  case atStart=>exact ⟨0,by omega,rfl,by simp,br_⟩
  case round =>
   obtain ⟨q,hq,rfl,htk,hbb⟩:=hrel
   have HBB:=hd_ hbb
   have HTK:=hd_ htk
   clear hbb htk
   by_cases hlt:q<n
   ·obtain ⟨a,rfl,-,c0⟩:=(HA.out.later HBB.out).bool hlt
    obtain ⟨b,rfl,-,c1⟩:=(HB.out.later HBB.out).bool hlt
    have h0:(0:Int)<=(q:Int):=by omega
    have h1:(q:Int)<(n:Int):=by omega
    by_cases he:l.getD q false=k.getD q false
    ·have HNX:=hd_ (take_eq_next false (by rw [HLN.out];exact hlt) (by rw [HKM.out];exact hlt) HTK.out he)
     rw [he] at c0
     clear he
     generalize k.getD q false=z at c0 c1
     go_wp2_with fail
     go_quiet (fail)
     go_wp2_with fail
     go_roundw
     case rel=>exact ⟨q+1,by omega,by go_num,HNX.out,below_drewN HBB.out _⟩
     case measure=>simp [intOf];omega
    ·obtain rfl:r=false:=by rw [<- HR.out];exact decide_eq_false (ne_of_getD false he)
     generalize l.getD q false=y at c0 he
     generalize k.getD q false=z at c1 he
     have hd:(!(y==z))=true:=by simpa using he
     clear he
     go_wp2_with fail
     go_quiet (fail)
     go_wp2_with fail
     go_ret
     exact ⟨rfl,below_drewN HBB.out _⟩
   ·obtain rfl:q=n:=by omega
    have hlk:l=k:=by have:=HTK.out;rwa [List.take_of_length_le (by rw [HLN.out];omega),List.take_of_length_le (by rw [HKM.out];omega)] at this
    obtain rfl:r=true:=by rw [<- HR.out];exact decide_eq_true hlk
    clear hlk
    go_wp2_with fail
    go_ret
    exact ⟨rfl,HBB.out⟩
 ·obtain rfl:r=false:=by rw [<- hr];exact decide_eq_false (show ¬ l=k from fun e=>hnm (by rw [<- hln,<- hkm,e]))
  have hd:((n:Int) != (m:Int))=true:=by rw [bne_iff_ne];omega
  clear hnm ha hb hln hkm hr
  go_enter Tryz.func29,Tryz.ntmps29
  go_wp2_with fail
  go_ret
  exact ⟨rfl,br_⟩
theorem rInts_any (w:World) (A B:Option Addr) (n m c d:Nat) (l k:List Int) (ha:Rd w 1 A n c (ints l)) (hb:Rd w 1 B m d (ints k)) (hn:n<=100000000) (hm:m<=100000000) (r:Bool) (hr:decide (l=k)=r) :
  Calls Tryz.prog 30 #[.slice A n c,.slice B m d] w fun e w'=>e=.returned (.bool r)∧Below w.heap.size w w':=by
 have hln:l.length=n:=by have:=ha.len;rw [ints_length] at this;omega
 have hkm:k.length=m:=by have:=hb.len;rw [ints_length] at this;omega
 by_cases hnm:n=m
 ·obtain rfl:=hnm
  have HA:=hd_ ha
  have HB:=hd_ hb
  have HLN:=hd_ hln
  have HKM:=hd_ hkm
  clear ha hb hln hkm hm
  have HR:=hd_ hr
  clear hr
  go_enter Tryz.func30,Tryz.ntmps30
  go_wp2_with fail
  go_loopw [5] (fun i wx=>∃ q:Nat,q<=n∧i=.int .i64 (q:Int)∧l.take q=k.take q∧Below w.heap.size w wx) (fun i _=>n-(intOf i).toNat)
  case atStart=>exact ⟨0,by omega,rfl,by simp,br_⟩
  case round =>
   obtain ⟨q,hq,rfl,htk,hbb⟩:=hrel
   have HBB:=hd_ hbb
   have HTK:=hd_ htk
   clear hbb htk
   by_cases hlt:q<n
   ·obtain ⟨a,rfl,-,c0⟩:=(HA.out.later HBB.out).int hlt
    obtain ⟨b,rfl,-,c1⟩:=(HB.out.later HBB.out).int hlt
    have h0:(0:Int)<=(q:Int):=by omega
    have h1:(q:Int)<(n:Int):=by omega
    by_cases he:l.getD q 0=k.getD q 0
    ·have HNX:=hd_ (take_eq_next 0 (by rw [HLN.out];exact hlt) (by rw [HKM.out];exact hlt) HTK.out he)
     rw [he] at c0
     clear he
     generalize k.getD q 0=z at c0 c1
     go_wp2_with fail
     go_quiet (fail)
     go_wp2_with fail
     go_roundw
     case rel=>exact ⟨q+1,by omega,by go_num,HNX.out,below_drewN HBB.out _⟩
     case measure=>simp [intOf];omega
    ·obtain rfl:r=false:=by rw [<- HR.out];exact decide_eq_false (ne_of_getD 0 he)
     generalize l.getD q 0=y at c0 he
     generalize k.getD q 0=z at c1 he
     have hd:(y != z)=true:=by simpa using he
     clear he
     go_wp2_with fail
     go_quiet (fail)
     go_wp2_with fail
     go_ret
     exact ⟨rfl,below_drewN HBB.out _⟩
   ·obtain rfl:q=n:=by omega
    have hlk:l=k:=by have:=HTK.out;rwa [List.take_of_length_le (by rw [HLN.out];omega),List.take_of_length_le (by rw [HKM.out];omega)] at this
    obtain rfl:r=true:=by rw [<- HR.out];exact decide_eq_true hlk
    clear hlk
    go_wp2_with fail
    go_ret
    exact ⟨rfl,HBB.out⟩
 ·obtain rfl:r=false:=by rw [<- hr];exact decide_eq_false (show ¬ l=k from fun e=>hnm (by rw [<- hln,<- hkm,e]))
  have hd:((n:Int) != (m:Int))=true:=by rw [bne_iff_ne];omega
  clear hnm ha hb hln hkm hr
  go_enter Tryz.func30,Tryz.ntmps30
  go_wp2_with fail
  go_ret
  exact ⟨rfl,br_⟩
end Go.Proofs.YtmkiphadkmodnaaGreat
