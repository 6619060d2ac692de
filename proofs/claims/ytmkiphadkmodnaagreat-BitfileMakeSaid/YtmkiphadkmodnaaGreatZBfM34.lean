/- BfM, 34 -/
import Derived.Test.YtmkiphadkmodnaaGreatZBfM33
import Derived.Test.YtmkiphadkmodnaaGreatZBfM13
import Derived.Test.YtmkiphadkmodnaaGreatZBfM0
set_option linter.all false
set_option maxRecDepth 100000
set_option maxHeartbeats 8000000
namespace Go.Proofs.YtmkiphadkmodnaaGreat
open Go.RowKit Go.Maps
theorem ralone29_any (w:World) (A:Option Addr) (n c:Nat) (l:List Int) (m:Int) (b:Bool) (hb:decide (padsOk m l)=b) (hr:Rd w 1 A n c (ints l)) (hn:n<=100000000) :
  Calls Tryz.prog 78 #[.slice A n c,.int .i64 m] w fun e w'=>e=.returned (.bool b)∧Below w.heap.size w w':=by
 have hl:l.length=n:=by have:=hr.len;rw [ints_length] at this;omega
 have HB:=hd_ hb
 have HR:=hd_ hr
 have HL:=hd_ hl
 clear hb hr hl
 go_enter Tryz.func78,Tryz.ntmps78
 go_wp2_with fail
 go_loopw [5] (fun i wx=>∃ k:Nat,k<=n∧i=.int .i64 (k:Int)∧Below w.heap.size w wx∧padsOk m (l.take k)) (fun i _=>n-(intOf i).toNat)
 case atStart=>exact ⟨0,by omega,rfl,br_,by constructor <;> simp⟩
 case round =>
  obtain ⟨k,hk,rfl,hbb,hp⟩:=hrel
  have HBB:=hd_ hbb
  have HP:=hd_ hp
  clear hbb hp
  by_cases hlt:k<n
  ·obtain ⟨a,rfl,hab,c0⟩:=(HR.out.later HBB.out).int hlt
   have hkl:k<l.length:=by rw [HL.out];exact hlt
   obtain ⟨z,hz⟩:∃ z,l.getD k 0=z:=⟨_,rfl⟩
   rw [hz] at c0
   have HZ:=hd_ hz
   clear hz
   by_cases h0:z<0
   ·have he:b=false:=by rw [<- HB.out];exact decide_eq_false (pads_out hkl (.inl (by rw [HZ.out];exact h0)))
    have HE:=hd_ he
    clear he
    go_wp2_with fail
    go_ret
    exact ⟨by rw [HE.out];rfl,HBB.out⟩
   ·have h0':decide (z<0)=false:=decide_eq_false h0
    by_cases h1:m<=z
    ·have he:b=false:=by rw [<- HB.out];exact decide_eq_false (pads_out hkl (.inr (by rw [HZ.out];exact h1)))
     have HE:=hd_ he
     have h1':decide (m<=z)=true:=decide_eq_true h1
     clear he
     go_wp2_with fail
     go_ret
     exact ⟨by rw [HE.out];rfl,HBB.out⟩
    ·have h1':decide (m<=z)=false:=decide_eq_false h1
     go_wp2_with fail
     go_loopw [6] (fun i wx=>∃ q:Nat,q<=k∧i=.int .i64 (q:Int)∧Below w.heap.size w wx∧Hid (∀ r,r<q->l.getD r 0≠z)) (fun i _=>k-(intOf i).toNat)
     case atStart=>exact ⟨0,by omega,rfl,HBB.out,hd_ (fun r hr=>by omega)⟩
     case round =>
      clear HBB c0
      obtain ⟨q,hq,rfl,hbb,hd⟩:=hrel
      have HBB:=hd_ hbb
      clear hbb
      by_cases hqk:q<k
      ·obtain ⟨a2,e2,-,c1⟩:=(HR.out.later HBB.out).int (k:=q) (by omega)
       obtain rfl:=Option.some.inj e2
       obtain ⟨a3,e3,-,c0⟩:=(HR.out.later HBB.out).int hlt
       obtain rfl:=Option.some.inj e3
       rw [HZ.out] at c0
       obtain ⟨y,hy⟩:∃ y,l.getD q 0=y:=⟨_,rfl⟩
       rw [hy] at c1
       have HY:=hd_ hy
       clear hy e2 e3
       have i0:(0:Int)<=(q:Int):=by omega
       have i1:(q:Int)<(n:Int):=by omega
       have i2:(0:Int)<=(k:Int):=by omega
       have i3:(k:Int)<(n:Int):=by omega
       by_cases he:y=z
       ·have hee:b=false:=by rw [<- HB.out];exact decide_eq_false (pads_twice hkl hqk (by rw [HY.out,HZ.out];exact he))
        have HE:=hd_ hee
        have hyz:(y==z)=true:=by simpa using he
        clear hee he
        go_wp2_with fail
        go_quiet (fail)
        go_wp2_with fail
        go_ret
        exact ⟨by rw [HE.out];rfl,below_drewN HBB.out _⟩
       ·have hyz:(y==z)=false:=by simpa using he
        go_wp2_with fail
        go_quiet (fail)
        go_wp2_with fail
        go_roundw
        case rel=>exact ⟨q+1,by omega,by go_num,below_drewN HBB.out _,hd_ (fun r hr=>by
         by_cases e:r=q
         ·subst e;rw [HY.out];exact he
         ·exact hd.out r (by omega))⟩
        case measure=>simp [intOf];omega
      ·obtain rfl:q=k:=by omega
       go_wp2_with fail
       go_roundw
       case rel=>exact ⟨q+1,by omega,by go_num,HBB.out,pads_next HP.out hkl (by rw [HZ.out];omega) (by rw [HZ.out];omega) (by rw [HZ.out];exact hd.out)⟩
       case measure=>simp [intOf];omega
  ·obtain rfl:k=n:=by omega
   have he:b=true:=by
    have:=HP.out
    rw [List.take_of_length_le (by rw [HL.out];exact Nat.le_refl _)] at this
    rw [<- HB.out];exact decide_eq_true this
   have HE:=hd_ he
   clear he
   go_wp2_with fail
   go_ret
   exact ⟨by rw [HE.out];rfl,HBB.out⟩
def memB (L:List Int):Int->Option Bool:=fun x=>if x ∈ L then some true else none
theorem memB_nil:memB []=fun _=>none:=by funext x;simp [memB]
theorem memB_snoc (L:List Int) (x:Int):memB (L++[x])=updI (memB L) x true:=by
 funext y
 unfold memB updI
 by_cases e:y=x
 ·subst e;simp
 ·simp [e]
theorem memB_get (L:List Int) (x:Int):(memB L x).getD false=decide (x ∈ L):=by
 unfold memB
 by_cases h:x ∈ L <;> simp [h]
theorem palone_any (w:World) (A:Option Addr) (n c:Nat) (l:List Int) (m:Int) (b:Bool) (hb:decide (padsOk m l)=b) (hr:Rd w 1 A n c (ints l)) (hn:n<=100000) (hm:m<=1000000) :
  Calls Tryz.prog 46 #[.slice A n c,.int .i64 m] w fun e w'=>e=.returned (.bool b)∧Below w.heap.size w w':=by
 have hl:l.length=n:=by have:=hr.len;rw [ints_length] at this;omega
 have HB:=hd_ hb
 have HR:=hd_ hr
 have HL:=hd_ hl
 clear hb hr hl
 have hmm:=@run_makeMap Tryz.prog
 have M0:=hd_ (MapV.made (lit:=Lit.bool) (e:=4) w)
 have B0:=hd_ (bn_ w (.map #[] 0))
 have hs0:w.heap.size<(w.alloc (.map #[] 0)).heap.size:=by simp
 go_enter Tryz.func46,Tryz.ntmps46
 go_wp2_with fail
 clear hmm
 generalize w.alloc (.map #[] 0)=w1 at M0 B0 hs0 ⊢
 go_loopw [11] (fun i wx=>∃ k cap:Nat,k<=n∧i=.int .i64 (k:Int)∧cap<=k∧MapB wx w.heap.size cap (memB (l.take k))∧Below w.heap.size w wx∧w.heap.size<wx.heap.size∧padsOk m (l.take k)) (fun i _=>n-(intOf i).toNat)
 case atStart=>exact ⟨0,0,by omega,rfl,by omega,by rw [List.take_zero,memB_nil];exact M0.out,B0.out,hs0,by constructor <;> simp⟩
 case round =>
  obtain ⟨k,cap,hk,rfl,hcap,hmp,hbb,hsz,hp⟩:=hrel
  have HBB:=hd_ hbb
  have HP:=hd_ hp
  have HMP:=hd_ hmp
  clear hbb hp hmp
  by_cases hlt:k<n
  case neg =>
   obtain rfl:k=n:=by omega
   have he:b=true:=by
    have:=HP.out
    rw [List.take_of_length_le (by rw [HL.out];exact Nat.le_refl _)] at this
    rw [<- HB.out];exact decide_eq_true this
   have HE:=hd_ he
   have hlt':¬ (k:Int)<(k:Int):=by omega
   clear he
   go_wp2_with fail
   go_ret
   exact ⟨by rw [HE.out];rfl,HBB.out⟩
  have hlt':(k:Int)<(n:Int):=by omega
  obtain ⟨a,rfl,hab,c0⟩:=(HR.out.later HBB.out).int hlt
  have hkl:k<l.length:=by rw [HL.out];exact hlt
  have hz2:l[k]=l.getD k 0:=by rw [List.getD_eq_getElem?_getD,List.getElem?_eq_getElem hkl];rfl
  have htk:l.take (k+1)=l.take k++[l.getD k 0]:=by rw [List.take_succ_eq_append_getElem hkl,hz2]
  have hto:decide (l.getD k 0 ∈ l.take k)=true->b=false:=fun hd=>by
   rw [<- HB.out]
   refine decide_eq_false ?_
   obtain ⟨q,hq,hqe⟩:=List.mem_iff_getElem.1 (of_decide_eq_true hd)
   rw [List.length_take] at hq
   rw [List.getElem_take] at hqe
   exact pads_twice hkl (show q<k by omega) (by rw [<- hqe,List.getD_eq_getElem?_getD,List.getElem?_eq_getElem (by omega)];rfl)
  have hnx:decide (l.getD k 0 ∈ l.take k)=false->0<=l.getD k 0->l.getD k 0<m->padsOk m (l.take (k+1)):=fun hd h0 h1 =>
   pads_next HP.out hkl h0 h1 (fun q hq hqe=>of_decide_eq_false hd (List.mem_iff_getElem.2 ⟨q,by rw [List.length_take];omega,by rw [List.getElem_take,<- hqe,List.getD_eq_getElem?_getD,List.getElem?_eq_getElem (by omega)];rfl⟩))
  have hout:(l.getD k 0<0∨m<=l.getD k 0)->b=false:=fun h=>by rw [<- HB.out];exact decide_eq_false (pads_out hkl h)
  have HTO:=hd_ hto
  have HNX:=hd_ hnx
  have HOUT:=hd_ hout
  have HTK:=hd_ htk
  have HGET:=hd_ (memB_get (l.take k) (l.getD k 0))
  clear hto hnx hout htk hz2
  generalize l.getD k 0=z at c0 HTO HNX HOUT HTK HGET
  by_cases h0:z<0
  ·have he:=hd_ (HOUT.out (.inl h0))
   go_wp2_with fail
   go_ret
   exact ⟨by rw [he.out];rfl,HBB.out⟩
  ·have h0':decide (z<0)=false:=decide_eq_false h0
   by_cases h1:m<=z
   ·have he:=hd_ (HOUT.out (.inr h1))
    have h1':decide (m<=z)=true:=decide_eq_true h1
    go_wp2_with fail
    go_ret
    exact ⟨by rw [he.out];rfl,HBB.out⟩
   ·have h1':decide (m<=z)=false:=decide_eq_false h1
    have hg:=HMP.out.get (n:=z) (by omega)
    rw [HGET.out] at hg
    obtain ⟨d,hd⟩:∃ d,decide (z ∈ l.take k)=d:=⟨_,rfl⟩
    rw [hd] at hg HTO HNX
    clear HGET hd
    cases d with
    | true =>
     have he:=hd_ (HTO.out rfl)
     go_wp2_with fail
     go_ret
     exact ⟨by rw [he.out];rfl,HBB.out⟩
    | false =>
     have HP2:=hd_ (HNX.out rfl (by omega) (by omega))
     obtain ⟨w7,hu,hm7,hg7⟩:=HMP.out.update (by unfold maxLen;omega) z true (by omega)
     have HM7:=hd_ hm7
     have B7:=hd_ (show Below w.heap.size w w7 from (Chg.of_grown hg7).below HBB.out (by omega) (fun q hq=>by injection hq with hq;omega))
     have hs7:w.heap.size<w7.heap.size:=Nat.lt_of_lt_of_le hsz hg7.size
     clear hm7 hg7
     go_wp2_with fail
     go_roundw
     case rel=>exact ⟨k+1,cap+1,by omega,by go_num,by omega,by rw [HTK.out,memB_snoc];exact HM7.out,B7.out,hs7,HP2.out⟩
     case measure=>simp [intOf];omega
end Go.Proofs.YtmkiphadkmodnaaGreat
