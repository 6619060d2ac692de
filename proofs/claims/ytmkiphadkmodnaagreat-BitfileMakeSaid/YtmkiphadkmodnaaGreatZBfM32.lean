/- BfM, 32 -/
import Derived.Lib.AppendZerosOnto
import Derived.Test.YtmkiphadkmodnaaGreatZBfM26
import Derived.Test.YtmkiphadkmodnaaGreatZBfM31
import Derived.Test.YtmkiphadkmodnaaGreatZBfM0
set_option linter.all false
set_option maxRecDepth 100000
set_option maxHeartbeats 8000000
namespace Go.Proofs.YtmkiphadkmodnaaGreat
open Go.RowKit
def RMAY (P:PK) (w:World) (R:Ending->World->Prop):Prop :=
 Calls Tryz.prog 139 #[.agg #[.int .i64 P.I,.slice P.AB P.bs.length P.cB,.slice P.AO P.outs.length P.cO]] w R
theorem rmay_head (P:PK) (w:World) (h:P.I<0∨(0<=P.I∧1024<P.I)∨((0<=P.I∧P.I<=1024)∧1024<(P.bs.length:Int))):RMAY P w (MayOut P w):=by
 have hno:¬ P.may:=fun hm=>by obtain ⟨h1,h2,h3,-⟩:=hm;omega
 have HNO:=hd_ hno
 have T0:=hd_ (MW.new w P)
 clear hno
 unfold RMAY
 rcases h with h|⟨h,h2⟩|⟨⟨h,h2⟩,h3⟩
 all_goals
  go_enter Tryz.func139,Tryz.ntmps139
  go_wp2_with fail
  go_ret
  exact MayOut.no HNO.out T0.out.below
theorem MW.drew {w0 wx:World} {g:Nat} {P:PK} (h:MW w0 wx g P):MW w0 wx.drew g P:=h.keep bd_
theorem any_bad_all {N:Int} {l:List Int} (h:∀ x ∈ l,0<=x∧x<N):l.any (badB N)=false:=by
 rw [List.any_eq_false]
 intro x hx
 have:=h x hx
 unfold badB
 simp
 omega
theorem take_one {α:Type} [Inhabited α] {l:List α} {k:Nat} (h:k<l.length) (d:α):l.take (k+1)=l.take k++[l.getD k d]:=by
 rw [List.take_add_one,List.getElem?_eq_getElem h,List.getD_eq_getElem?_getD,List.getElem?_eq_getElem h];rfl
theorem rmay_body (P:PK) (w:World) (hin:P.In w) (hf:P.fit) (hI:0<=P.I∧P.I<=1024) (hnb:P.bs.length<=1024):RMAY P w (MayOut P w):=by
 have h2:¬ 1024<(P.bs.length:Int):=by omega
 have hI1:0<=P.I:=hI.1
 have hI2:P.I<=1024:=hI.2
 have HI:=hd_ hI
 have HIN:=hd_ hin
 have HF:=hd_ hf
 have T0:=hd_ (MW.new w P)
 clear hI hin hf
 unfold RMAY
 obtain ⟨I,AB,cB,bs,AO,cO,outs⟩:=P
 simp only at hnb h2 hI1 hI2
 obtain ⟨N,hN⟩:∃ N,PK.N ⟨I,AB,cB,bs,AO,cO,outs⟩=N:=⟨_,rfl⟩
 have hN0:I+(bs.length:Int)=N:=hN
 have HN:=hd_ hN
 have hN1:0<=I+(bs.length:Int):=by omega
 have hN2:I+(bs.length:Int)<=10000:=by omega
 clear hN hN0
 go_enter Tryz.func139,Tryz.ntmps139
 go_wp2_with fail
 go_loopw [33] (fun i wx=>∃ k:Nat,k<=bs.length∧i=.int .i64 (k:Int)∧MW w wx w.heap.size ⟨I,AB,cB,bs,AO,cO,outs⟩∧∀ b ∈ bs.take k,b.ok N) (fun i _=>bs.length-(intOf i).toNat)
 case atStart=>exact ⟨0,by omega,rfl,T0.out,by simp⟩
 case round =>
  obtain ⟨k,hk,rfl,hT,hall⟩:=hrel
  have T1:=hd_ hT
  have HA:=hd_ hall
  clear hT hall T0
  by_cases hlt:k<bs.length
  case neg =>
   obtain rfl:k=bs.length:=by omega
   obtain ⟨k0,k1,k2⟩:=T1.out.cells
   simp only at k0 k1 k2
   have HO:=hd_ (HIN.out.outs.later T1.out.below)
   have hon:=HF.out.o
   simp only at hon
   go_wp2_with fail
   go_loop [84] (fun i=>∃ j:Nat,j<=outs.length∧i=.int .i64 (j:Int)∧∀ x ∈ outs.take j,0<=x∧x<N) (fun i=>outs.length-(intOf i).toNat)
   case atStart=>exact ⟨0,by omega,rfl,fun x hx=>(nomatch hx)⟩
   case round =>
    obtain ⟨j,hj,rfl,hjd⟩:=hrel
    have JD:=hd_ hjd
    clear hjd
    by_cases hlt2:j<outs.length
    case neg =>
     obtain rfl:j=outs.length:=by omega
     go_wp2_with fail
     go_ret
     refine MayOut.yes ⟨HI.out.1,HI.out.2,hnb,fun b hb=>?_,?_⟩ T1.out.below
     ·rw [HN.out];exact HA.out b (by rw [List.take_of_length_le (Nat.le_refl _)];exact hb)
     ·rw [HN.out];exact any_bad_all (fun x hx=>JD.out x (by rw [List.take_of_length_le (Nat.le_refl _)];exact hx))
    obtain ⟨a2,hA2,-,cx⟩:=HO.out.int hlt2
    subst hA2
    have htj:=take_one hlt2 0
    have hmj:outs.getD j 0 ∈ outs:=by rw [List.getD_eq_getElem?_getD,List.getElem?_eq_getElem hlt2];exact List.getElem_mem hlt2
    generalize outs.getD j 0=z at cx htj hmj
    have HTJ:=hd_ htj
    have HMJ:=hd_ hmj
    clear htj hmj
    have hno:¬ (0<=z∧z<N)->¬ PK.may ⟨I,AB,cB,bs,some a2,cO,outs⟩:=fun hz hm=>hz (any_bad_no (by rw [<- HN.out];exact hm.2.2.2.2) z HMJ.out)
    have HNO:=hd_ hno
    clear hno
    have hNN:=HN.out
    unfold PK.N at hNN
    simp only at hNN
    by_cases z1:z<0
    ·have hb:=hd_ (HNO.out (by omega))
     clear hNN
     go_wp2_with fail
     go_ret
     exact MayOut.no hb.out T1.out.below
    by_cases z2:I+(bs.length:Int)<=z
    ·have hb:=hd_ (HNO.out (by omega))
     clear hNN
     go_wp2_with fail
     go_ret
     exact MayOut.no hb.out T1.out.below
    have hz:=hd_ (show 0<=z∧z<N by omega)
    clear hNN
    go_wp2_with fail
    go_round
    case rel=>exact ⟨j+1,by omega,by go_num,fun x hx=>by
     rw [HTJ.out] at hx
     rcases List.mem_append.1 hx with hx|hx
     ·exact JD.out x hx
     ·rw [List.mem_singleton.1 hx];exact hz.out⟩
    case measure=>simp [intOf];omega
  obtain ⟨a,hA,hab,c0,c1,c2,c3⟩:=(HIN.out.blocks.later T1.out.below).block hlt
  try simp only at hA
  subst hA
  have hmem:bs[k] ∈ bs:=List.getElem_mem hlt
  have hR:=hd_ ((HIN.out.each _ hmem).later T1.out.below)
  have hno:¬ (bs[k]).ok N->¬ PK.may ⟨I,some a,cB,bs,AO,cO,outs⟩:=fun hb hm=>hb (by rw [<- HN.out];exact hm.2.2.2.1 _ hmem)
  have hnext:(bs[k]).ok N->∀ b ∈ bs.take (k+1),b.ok N:=fun hb b hm=>by
   rw [List.take_succ_eq_append_getElem hlt] at hm
   rcases List.mem_append.1 hm with h|h
   ·exact HA.out b h
   ·rw [List.mem_singleton.1 h];exact hb
  have hl8:=HF.out.l _ hmem
  have ht8:=HF.out.t _ hmem
  have HNO:=hd_ hno
  have HNX:=hd_ hnext
  clear hno hnext hmem
  simp only at c0 c1 c2 c3 hR
  generalize bs[k]=b at c0 c1 c2 c3 hR HNO HNX hl8 ht8
  obtain ⟨bA,bc,bl,bt,bff,bit⟩:=b
  simp only at c0 c1 c2 c3 hR hl8 ht8
  obtain ⟨ht8,ht9⟩:=ht8
  obtain ⟨bA',hbA⟩:∃ A,bA=A:=⟨_,rfl⟩
  have HBA:=hd_ hbA
  clear hbA
  have hbB:=bn_ wr (.cells #[.slice bA bl.length bc,.int .i64 bt,.bool bff,.bool bit] 62)
  have T2:=hd_ (T1.out.keep hbB)
  have R2:=hd_ (hR.out.later hbB)
  clear hbB
  by_cases q1:4<(bl.length:Int)
  ·have hb:=hd_ (HNO.out (fun h=>by have:=h.1;simp only at this;omega))
   have d1:decide (4<(bl.length:Int))=true:=decide_eq_true q1
   go_wp2_with fail
   go_quiet (fail)
   go_wp2_with fail
   go_ret
   exact MayOut.no hb.out (T2.out.keep (below_drewN br_ _)).below
  have hl4:bl.length<=4:=by omega
  have hl0:bl.length<=100000000:=by omega
  have d1:decide (4<(bl.length:Int))=false:=decide_eq_false q1
  by_cases q4:bt<0
  ·have hb:=hd_ (HNO.out (fun h=>by have:=h.2.2.2.1;simp only at this;omega))
   have q4':decide (bt<0)=true:=decide_eq_true q4
   go_wp2_with fail
   go_quiet (fail)
   go_wp2_with fail
   go_ret
   exact MayOut.no hb.out (T2.out.keep (below_drewN br_ _)).below
  have q4':decide (bt<0)=false:=decide_eq_false q4
  have ht0:0<=bt:=by omega
  obtain ⟨n,hn⟩:∃ n,bl.length=n:=⟨_,rfl⟩
  obtain ⟨q,p,hq,hp,hq0,hp0,hD⟩:∃ q p:Nat,(2:Int) ^ n=(q:Int)∧(2:Int) ^ q=(p:Int)∧q<=16∧p<=65536∧(2:Int) ^ 2 ^ n=(p:Int):=by
   rcases (show n=0∨n=1∨n=2∨n=3∨n=4 by omega) with rfl|rfl|rfl|rfl|rfl
   ·exact ⟨1,2,rfl,rfl,by decide,by decide,rfl⟩
   ·exact ⟨2,4,rfl,rfl,by decide,by decide,rfl⟩
   ·exact ⟨4,16,rfl,rfl,by decide,by decide,rfl⟩
   ·exact ⟨8,256,rfl,rfl,by decide,by decide,rfl⟩
   ·exact ⟨16,65536,rfl,rfl,by decide,by decide,rfl⟩
  have T3:=hd_ (MW.keep T1.out (bn_ wr (.cells #[.slice bA bl.length bc,.int .i64 bt,.bool bff,.bool bit] 62)))
  have R3:=hd_ (hR.out.later (bn_ wr (.cells #[.slice bA bl.length bc,.int .i64 bt,.bool bff,.bool bit] 62)))
  have HD:=hd_ hD
  have HL:=hd_ hn
  rw [hn] at c0 T3 R3 d1 hl4 hl0 hl8
  clear hD hn T2 R2
  by_cases q5:(p:Int)<=bt
  ·have q5':decide ((p:Int)<=bt)=true:=decide_eq_true q5
   have hb:=hd_ (HNO.out (fun h=>by have:=h.2.2.2.2;simp only at this;rw [HL.out,HD.out] at this;omega))
   go_wp2_with fail
   go_quiet (fail)
   go_wp2_with fail
   go_ret
   exact MayOut.no hb.out (T3.out.keep (below_drewN br_ _)).below
  have q5':decide ((p:Int)<=bt)=false:=decide_eq_false q5
  have HQ5:=hd_ (show bt<(p:Int) by omega)
  clear q5
  by_cases hfi:bff=false∧bit=true
  ·obtain ⟨rfl,rfl⟩:=hfi
   have hb:=hd_ (HNO.out (fun h=>by have:=h.2.2.1 rfl;cases this))
   go_wp2_with fail
   go_quiet (fail)
   go_wp2_with fail
   go_ret
   exact MayOut.no hb.out (T3.out.keep (below_drewN br_ _)).below
  have hfi':bff=true∨bff=false∧bit=false:=by cases bff <;> cases bit <;> first|exact absurd ⟨rfl,rfl⟩ hfi|decide
  clear hfi
  rcases hfi' with rfl|⟨rfl,rfl⟩
  all_goals
   go_wp2_with fail
   go_quiet (fail)
   go_wp2_with fail
   go_loop [68] (fun i=>∃ j:Nat,j<=n∧i=.int .i64 (j:Int)∧∀ x ∈ bl.take j,0<=x∧x<N) (fun i=>n-(intOf i).toNat)
   case atStart=>exact ⟨0,by omega,rfl,fun x hx=>(nomatch hx)⟩
   case round =>
    obtain ⟨j,hj,rfl,hjd⟩:=hrel
    have JD:=hd_ hjd
    clear hjd
    by_cases hlt2:j<n
    case neg =>
     obtain rfl:j=n:=by omega
     go_wp2_with fail
     go_roundw
     case rel=>exact ⟨k+1,by omega,by go_num,(T3.out.keep (below_drewN br_ _)),HNX.out ⟨by simp only;rw [HL.out];omega,any_bad_all (fun x hx=>JD.out x (by rw [List.take_of_length_le (by rw [HL.out];exact Nat.le_refl _)];exact hx)),(fun h=>by first|rfl|(simp at h;done)|exact Bool.noConfusion h),ht0,by simp only;rw [HL.out,HD.out];exact HQ5.out⟩⟩
     case measure=>simp [intOf];omega
    obtain ⟨a2,rfl,-,cx⟩:=(R3.out.later (below_drewN br_ nq)).int hlt2
    have hjl:j<bl.length:=by rw [HL.out];exact hlt2
    have htj:=take_one hjl 0
    have hmj:bl.getD j 0 ∈ bl:=by rw [List.getD_eq_getElem?_getD,List.getElem?_eq_getElem hjl];exact List.getElem_mem hjl
    generalize bl.getD j 0=z at cx htj hmj
    have HTJ:=hd_ htj
    have HMJ:=hd_ hmj
    clear htj hmj hjl
    have hno:¬ (0<=z∧z<N)->¬ PK.may ⟨I,some a,cB,bs,AO,cO,outs⟩:=fun hz=>HNO.out fun hm=>hz (any_bad_no hm.2.1 z HMJ.out)
    have HNO2:=hd_ hno
    clear hno
    have hNN:=HN.out
    unfold PK.N at hNN
    simp only at hNN
    by_cases z1:z<0
    ·have hb:=hd_ (HNO2.out (by omega))
     clear hNN
     go_wp2_with fail
     go_ret
     exact MayOut.no hb.out (T3.out.keep (below_drewN br_ _)).below
    by_cases z2:I+(bs.length:Int)<=z
    ·have hb:=hd_ (HNO2.out (by omega))
     clear hNN
     go_wp2_with fail
     go_ret
     exact MayOut.no hb.out (T3.out.keep (below_drewN br_ _)).below
    have hz:=hd_ (show 0<=z∧z<N by omega)
    clear hNN
    go_wp2_with fail
    go_round
    case rel=>exact ⟨j+1,by omega,by go_num,fun x hx=>by
     rw [HTJ.out] at hx
     rcases List.mem_append.1 hx with hx|hx
     ·exact JD.out x hx
     ·rw [List.mem_singleton.1 hx];exact hz.out⟩
    case measure=>simp [intOf];omega
theorem rmay_any (P:PK) (w:World) (hin:P.In w) (hf:P.fit):RMAY P w (MayOut P w):=by
 by_cases h0:P.I<0
 ·exact rmay_head P w (.inl h0)
 by_cases h1:1024<P.I
 ·exact rmay_head P w (.inr (.inl ⟨by omega,h1⟩))
 by_cases h2:1024<(P.bs.length:Int)
 ·exact rmay_head P w (.inr (.inr ⟨⟨by omega,by omega⟩,h2⟩))
 exact rmay_body P w hin hf (by omega) (by omega)
end Go.Proofs.YtmkiphadkmodnaaGreat
namespace Go.Proofs.YtmkiphadkmodnaaGreat
open Go.RowKit Topo
def rdyB (I:Int) (bs:List BL) (D:List Bool) (x:Int):Bool:=decide (x-I<0)||(ffAt bs (x-I).toNat||D.getD (x-I).toNat false)
theorem of_edTo {I:Int} {bs:List BL} {c i:Nat}:∀ K,(c,i) ∈ edTo I bs K->∃ x ∈ inL bs i,x-I=(c:Int)∧ffAt bs c=false
 | 0,h=>by cases h
 | K+1,h=>by
  rcases List.mem_append.1 h with h|h
  ·exact of_edTo K h
  ·by_cases hf:ffAt bs K=true
   ·rw [if_pos hf] at h;cases h
   ·rw [if_neg hf] at h
    obtain ⟨x,hx,he⟩:=List.mem_flatMap.1 h
    unfold edOf at he
    split at he
    ·next hc =>
     have:=List.mem_singleton.1 he
     injection this with h1 h2
     subst h1 h2
     exact ⟨x,hx,by omega,hc.2⟩
    ·cases he
theorem rdy_all {P:PK} {D:List Bool} {O:List Nat} (hD:∀ b,D.getD b false=decide (b ∈ O)) {b:Nat} (hb:P.S b) :
  (inL P.bs b).all (rdyB P.I P.bs D)=true↔∀ k ∈ depE P.E b,k ∈ O:=by
 constructor
 ·intro h k hk
  obtain ⟨x,hx,he,hf⟩:=of_edTo _ (mem_depE.1 hk)
  have:=List.all_eq_true.1 h x hx
  unfold rdyB at this
  rw [he] at this
  simp only [Int.toNat_natCast,hf,hD] at this
  have hk0:¬ (k:Int)<0:=by omega
  simpa [hk0] using this
 ·intro h
  rw [List.all_eq_true]
  intro x hx
  unfold rdyB
  by_cases h0:x-P.I<0
  ·simp [h0]
  ·have he:x-P.I=((x-P.I).toNat:Int):=by omega
   cases hf:ffAt P.bs (x-P.I).toNat with
   | true=>simp
   | false =>
    have:=h _ (mem_E hb hx hf he)
    rw [hD]
    simp [this]
def StuckP (P:PK) (O:List Nat):Prop:=∀ b,P.S b->b ∉ O->∃ k ∈ depE P.E b,k ∉ O
def StuckTo (P:PK) (O:List Nat) (j:Nat):Prop:=∀ b,b<j->P.S b->b ∉ O->¬ ∀ k ∈ depE P.E b,k ∈ O
theorem StuckTo.all {P:PK} {O:List Nat} (h:StuckTo P O P.bs.length):StuckP P O:=fun b hb hn=>by
 have:=h b (PK.S_lt hb) hb hn
 exact Classical.byContradiction fun hc=>this fun k hk=>Classical.byContradiction fun hk2=>hc ⟨k,hk,hk2⟩
theorem StuckTo.next {P:PK} {O:List Nat} {j:Nat} (h:StuckTo P O j) (hj:P.S j->j ∉ O->¬ ∀ k ∈ depE P.E j,k ∈ O):StuckTo P O (j+1):=fun b hb h1 h2=>by
 by_cases he:b=j
 ·subst he;exact hj h1 h2
 ·exact h b (by omega) h1 h2
theorem part_len {P:PK} {O:List Nat} (h:Part (depE P.E) P.S O):O.length<=P.bs.length:=by
 have:=sub_len (m:=List.range P.bs.length) h.nodup fun x hx=>List.mem_range.2 (PK.S_lt (h.mem x hx))
 simpa using this
structure RO (w wx:World) (P:PK) (D:List Bool) (AO:Option Addr) (cO:Nat) (O:List Nat):Prop where
 below:Below w.heap.size w wx
 box:Blk wx w.heap.size 27 #[.int .i64 P.I,.slice P.AB P.bs.length P.cB,.slice P.AO P.outs.length P.cO]
 done:wx.ownsRow (w.heap.size+1) 4 1 (.slice (some ⟨w.heap.size+1,0,none⟩) P.bs.length P.bs.length) P.bs.length (bools D)
 out:wx.ownsRow (w.heap.size+2) 3 1 (.slice AO O.length cO) O.length (ints (natI O))
 size:w.heap.size+2<=wx.heap.size
section
variable {w wx wy : World} {P : PK} {D : List Bool} {AO : Option Addr} {cO : Nat} {O : List Nat}
theorem RO.len (h:RO w wx P D AO cO O):D.length=P.bs.length:=by have:=h.done.1;rw [bools_length] at this;omega
theorem RO.cell (h:RO w wx P D AO cO O) {k:Nat} (hk:k<P.bs.length):wx.cell? ⟨w.heap.size+1,k,none⟩=some (.bool (D.getD k false))∧wx.frozen? ⟨w.heap.size+1,k,none⟩=false:=by
 refine ⟨?_,h.done.frozenAt k⟩
 rw [h.done.cellAt k (by omega)]
 simp [bools,List.getD_eq_getElem?_getD,List.getElem?_eq_getElem (show k<D.length by rw [h.len];exact hk)]
theorem RO.keep (h:RO w wx P D AO cO O) (hb:Below wx.heap.size wx wy):RO w wy P D AO cO O :=
 ⟨bt_ h.below hb,h.box.keep hb,own_keep h.done hb,own_keep h.out hb,Nat.le_trans h.size hb.size⟩
theorem RO.mark (h:RO w wx P D AO cO O) (k:Nat):RO w (wx.setCell ⟨w.heap.size+1,k,none⟩ (.bool true)) P (D.set k true) AO cO O:=by
 obtain ⟨h1,h2⟩:=h.done.stored k (.bool true)
 have e:(bools D).set k (.bool true)=bools (D.set k true):=by simp [bools,List.map_set]
 rw [e] at h1
 exact ⟨h.below.grown h2 h.below.size (fun j hj=>by injection hj with hj;omega),h.box.apart (p:=⟨w.heap.size+1,k,none⟩) (by show w.heap.size≠w.heap.size+1;omega) _,h1,
  own_kept h.out h2 (fun e=>by have:=(h.out.lt _ e).1;omega),by simpa using h.size⟩
theorem RO.add (h:RO w wx P D AO cO O) {qB:Option Addr} {qd:Nat} {x:Nat} (hr:wy.ownsRow (w.heap.size+2) 3 1 (.slice qB (O.length+1) qd) (O.length+1) (ints (natI O)++[.int .i64 (x:Int)]))
  (hg:wx.grownBy wy (Value.slice AO O.length cO).ownBlock):RO w wy P D qB qd (O++[x]):=by
 have e2:ints (natI (O++[x]))=ints (natI O)++[.int .i64 (x:Int)]:=by simp [ints,natI]
 have hne:∀ j,(Value.slice AO O.length cO).ownBlock=some j->w.heap.size+2<=j:=fun j hj=>(h.out.lt _ hj).1
 exact ⟨h.below.grown hg h.below.size (fun j hj=>by have:=hne j hj;omega),h.box.grown hg (fun e=>by have:=hne _ e.symm;omega),
  h.done.kept hg (.inr (fun e=>by have:=hne (w.heap.size+1) (by rw [<- e];rfl);omega)),by rw [e2];simpa using hr,Nat.le_trans h.size hg.size⟩
end
theorem mark_mem {D:List Bool} {O:List Nat} (hD:∀ b,D.getD b false=decide (b ∈ O)) {k:Nat} (hk:k<D.length):∀ b,(D.set k true).getD b false=decide (b ∈ O++[k]):=fun b=>by
 have:=hD b
 simp only [List.getD_eq_getElem?_getD,List.getElem?_set] at this ⊢
 by_cases h:k=b
 ·subst h;simp [hk]
 ·rw [if_neg h,this]
  have hb:b≠k:=fun e=>h e.symm
  simp [hb]
def ROrdOut (P:PK) (w:World) (e:Ending) (w':World):Prop :=
 ∃ A c O,e=.returned (.slice A O.length c)∧Below w.heap.size w w'∧Rd w' 1 A O.length c (ints (natI O))∧Part (depE P.E) P.S O∧(O.length=P.bs.length∨StuckP P O)
theorem rorder_any (P:PK) (w:World) (hin:P.In w) (h:P.may) :
  Calls Tryz.prog 140 #[.agg #[.int .i64 P.I,.slice P.AB P.bs.length P.cB,.slice P.AO P.outs.length P.cO]] w (ROrdOut P w):=by
 obtain ⟨hI1,hI2,hnb,hok,-⟩:=h
 have HOK:=hd_ hok
 have HIN:=hd_ hin
 obtain ⟨AB,hAB⟩:∃ A,P.AB=A:=⟨_,rfl⟩
 have HAB:=hd_ hAB
 have X0:=hd_ (Blk.made w 27 #[.int .i64 P.I,.slice P.AB P.bs.length P.cB,.slice P.AO P.outs.length P.cO])
 have Q0:=hd_ (bn_ w (.cells #[.int .i64 P.I,.slice P.AB P.bs.length P.cB,.slice P.AO P.outs.length P.cO] 27))
 have htc:(Tryz.prog.info? 4).map (fun i=>(i.zero,i.size,i.bytes))=some (some (.bool false),1,1):=by kernel_rfl
 obtain ⟨i0,hi0,hz0,hz1,hz2⟩:=info_parts htc
 have HI0:=hd_ hi0
 have HZ0:=hd_ hz0
 have HZ1:=hd_ hz1
 have HZ2:=hd_ hz2
 clear hAB hok hin hi0 hz0 hz1 hz2 htc
 go_enter Tryz.func140,Tryz.ntmps140
 go_wp2_with ((with_reducible refine wpList_make_full _ rfl (.tmp 12) (.tmp 12) 35 rfl (w.heap.size+1) 4 i0 (.bool false) 1 Tryz.underlying35 HI0.out HZ0.out HZ1.out .i64 .i64 (P.bs.length:Int) (P.bs.length:Int) P.bs.length rfl rfl rfl rfl ?c1 ?c2 (by simp) ?_))
 case c1=>rw [HZ2.out];omega
 case c2=>unfold maxLen;omega
 intro w2 hm2 hg2
 have hb2:Below (w.alloc (.cells #[.int .i64 P.I,.slice P.AB P.bs.length P.cB,.slice P.AO P.outs.length P.cO] 27)).heap.size (w.alloc (.cells #[.int .i64 P.I,.slice P.AB P.bs.length P.cB,.slice P.AO P.outs.length P.cO] 27)) w2:=br_.grown hg2 (Nat.le_refl _) (fun _ h=>by cases h)
 rw [show (madeCells #[Value.bool false] P.bs.length).toList=bools (List.replicate P.bs.length false) by rw [toList_madeCells_one];simp [bools]] at hm2
 have hm2':w2.ownsRow (w.heap.size+1) 4 1 (.slice (some ⟨w.heap.size+1,0,none⟩) P.bs.length P.bs.length) P.bs.length (bools (List.replicate P.bs.length false)):=by simpa using hm2
 have R2:=hd_ (show RO w w2 P (List.replicate P.bs.length false) none 0 [] from ⟨bt_ Q0.out hb2,X0.out.keep hb2,hm2',by simpa [ints,natI] using World.ownsRow_nil _ _ _ _,by have:w.heap.size+1<w2.heap.size:=(hm2'.lt _ rfl).2;omega⟩)
 have hn0:(P.bs.length:Int)<=1024:=by omega
 clear hb2 hm2 hm2' hg2 X0 Q0
 obtain ⟨k0,k1⟩:=(show w2.cell? ⟨w.heap.size,0,none⟩=some (.int .i64 P.I)∧w2.cell? ⟨w.heap.size,1,none⟩=some (.slice P.AB P.bs.length P.cB) from ⟨R2.out.box.cell 0,R2.out.box.cell 1⟩)
 go_wp2_with fail
 clear k0 k1
 go_loopw [3,17] (fun v i wx=>∃ (k:Nat) (A:Option Addr) (c:Nat) (O:List Nat) (D:List Bool),k<=P.bs.length∧i=.int .i64 (k:Int)∧v=.slice A O.length c∧RO w wx P D A c O∧(∀ b,D.getD b false=decide (b ∈ O))∧Part (depE P.E) P.S O∧(O.length=k∨StuckP P O)) (fun _ i _=>P.bs.length-(intOf i).toNat)
 case atStart=>exact ⟨0,none,0,[],_,by omega,rfl,rfl,R2.out,fun b=>by simp [List.getD_eq_getElem?_getD,List.getElem?_replicate];split <;> rfl,Part.nil _ _,.inl rfl⟩
 case round =>
  obtain ⟨k,A,c,O,D,hk,rfl,rfl,hR,hD,hP,hOr⟩:=hrel
  have R3:=hd_ hR
  have HD:=hd_ hD
  have HP:=hd_ hP
  have HOR:=hd_ hOr
  have holen:=part_len hP
  clear hR hD hP hOr R2
  have k0:wr.cell? ⟨w.heap.size,0,none⟩=some (.int .i64 P.I):=R3.out.box.cell 0
  have k1:wr.cell? ⟨w.heap.size,1,none⟩=some (.slice P.AB P.bs.length P.cB):=R3.out.box.cell 1
  by_cases hlt:k<P.bs.length
  case neg =>
   obtain rfl:k=P.bs.length:=by omega
   go_wp2_with fail
   go_ret
   exact ⟨A,c,O,rfl,R3.out.below,by have:=Rd.of_own R3.out.out;exact this,HP.out,HOR.out⟩
  go_wp2_with fail
  go_loop [3,22] (fun v i=>∃ q:Nat,q<=P.bs.length∧i=.int .i64 (q:Int)∧v=.slice A O.length c∧StuckTo P O q) (fun _ i=>P.bs.length-(intOf i).toNat)
  case atStart=>exact ⟨0,by omega,rfl,rfl,fun b hb=>absurd hb (by omega)⟩
  case round =>
   obtain ⟨q,hq,rfl,rfl,hs⟩:=hrel
   have HST:=hd_ hs
   clear hs
   by_cases hlt2:q<P.bs.length
   case neg =>
    obtain rfl:q=P.bs.length:=by omega
    go_wp2_with fail
    go_roundw
    case rel=>exact ⟨k+1,A,c,O,D,by omega,by go_num,rfl,R3.out,HD.out,HP.out,.inr HST.out.all⟩
    case measure=>simp [intOf];omega
   obtain ⟨c0,f0⟩:=R3.out.cell hlt2
   rw [HD.out q] at c0
   by_cases hm:q ∈ O
   case pos =>
    rw [decide_eq_true hm] at c0
    have HM:=hd_ hm
    clear hm
    go_wp2_with fail
    go_round
    case rel=>exact ⟨q+1,by omega,by go_num,rfl,HST.out.next (fun _ hn=>absurd HM.out hn)⟩
    case measure=>simp [intOf];omega
   rw [decide_eq_false hm] at c0
   have HM:=hd_ hm
   clear hm
   obtain ⟨ad,hA,hab,b0,b1,b2,b3⟩:=(HIN.out.blocks.later R3.out.below).block hlt2
   rw [hA] at k1
   have HA:=hd_ hA
   clear hA
   have hbo:=HOK.out _ (List.getElem_mem hlt2)
   have hRl:=hd_ ((HIN.out.each _ (List.getElem_mem hlt2)).later R3.out.below)
   rw [<- ffAt_get hlt2] at b2
   rw [<- inL_get hlt2] at b0 hRl
   have hlen:(inL P.bs q).length<=4:=by rw [inL_get hlt2];exact hbo.1
   have hbad:∀ x ∈ inL P.bs q,0<=x∧x<P.N:=by rw [inL_get hlt2];exact any_bad_no hbo.2.1
   have HBAD:=hd_ hbad
   clear hbo hbad b1 b3
   obtain ⟨bA,hbA⟩:∃ A,P.bs[q].A=A:=⟨_,rfl⟩
   rw [hbA] at b0 hRl
   cases hff:ffAt P.bs q with
   | true =>
    rw [hff] at b2
    have HFF:=hd_ hff
    clear hff
    go_wp2_with fail
    go_round
    case rel=>exact ⟨q+1,by omega,by go_num,rfl,HST.out.next (fun hS=>by unfold PK.S at hS;rw [HFF.out] at hS;cases hS)⟩
    case measure=>simp [intOf];omega
   | false =>
    rw [hff] at b2
    have HFF:=hd_ (show P.S q from hff)
    clear hff
    go_wp2_with fail
    go_loop [6,44] (fun r i=>∃ m:Nat,m<=(inL P.bs q).length∧i=.int .i64 (m:Int)∧r=.bool (((inL P.bs q).take m).all (rdyB P.I P.bs D))) (fun _ i=>(inL P.bs q).length-(intOf i).toNat)
    case atStart=>exact ⟨0,by omega,rfl,rfl⟩
    case round =>
     obtain ⟨m,hm,rfl,rfl⟩:=hrel
     by_cases hlt3:m<(inL P.bs q).length
     case neg =>
      obtain rfl:m=(inL P.bs q).length:=by omega
      rw [List.take_length]
      by_cases hr:(inL P.bs q).all (rdyB P.I P.bs D)=true
      case pos =>
       have hall:=(rdy_all HD.out HFF.out).1 hr
       have hlk:O.length=k:=HOR.out.resolve_right (fun hst=>by obtain ⟨x,hx,hn⟩:=hst q HFF.out HM.out;exact hn (hall x hx))
       have R4:=hd_ (R3.out.mark q)
       have HALL:=hd_ hall
       have HLK:=hd_ hlk
       have hon:O.length<2000:=by omega
       have hz4:w.heap.size+2<=(wr.setCell ⟨w.heap.size+1,q,none⟩ (.bool true)).heap.size:=R4.out.size
       rw [hr]
       clear hr hall hlk b0 b2
       go_upto_region 19 with (fail)
       obtain ⟨w5,hw5⟩:∃ w5,wr.setCell ⟨w.heap.size+1,q,none⟩ (.bool true)=w5:=⟨_,rfl⟩
       have r4:=R4.out
       rw [hw5] at r4 hz4
       rw [hw5]
       have R4:=hd_ r4
       clear r4 hw5
       go_wp2_with (at_builtin;refine wpList_app_int rfl (.tmp 75) (.tmp 77) rfl (w.heap.size+2) A O.length c _ rfl R4.out.out (q:Int) rfl (by omega) hz4 ?_)
       intro A7 c7 w7 hown7 hg7
       have R7:=hd_ ((R4.out.keep (bn_ _ _)).add (x:=q) (by simpa [ints] using hown7) hg7)
       clear hown7 hg7
       go_wp2_with fail
       go_roundw
       case rel=>exact ⟨k+1,A7,c7,O++[q],_,by omega,by go_num,by simp,R7.out,mark_mem HD.out (by rw [R3.out.len];exact hlt2),HP.out.snoc HFF.out HM.out HALL.out,.inl (by simp [HLK.out])⟩
       case measure=>simp [intOf];omega
      case neg =>
       have hall:¬ ∀ k ∈ depE P.E q,k ∈ O:=fun h=>hr ((rdy_all HD.out HFF.out).2 h)
       have HALL:=hd_ hall
       rw [show (inL P.bs q).all (rdyB P.I P.bs D)=false by simpa using hr]
       clear hr hall
       go_wp2_with fail
       go_round
       case rel=>exact ⟨q+1,by omega,by go_num,rfl,HST.out.next (fun _ _=>HALL.out)⟩
       case measure=>simp [intOf];omega
     obtain ⟨a2,hA2,-,cx⟩:=hRl.out.int hlt3
     subst hA2
     have htk:=take_one hlt3 0
     have hx:=HBAD.out ((inL P.bs q).getD m 0) (by rw [List.getD_eq_getElem?_getD,List.getElem?_eq_getElem hlt3];exact List.getElem_mem hlt3)
     generalize (inL P.bs q).getD m 0=x at cx htk hx
     have hall1:((inL P.bs q).take (m+1)).all (rdyB P.I P.bs D)=(((inL P.bs q).take m).all (rdyB P.I P.bs D)&&rdyB P.I P.bs D x):=by rw [htk,List.all_append];simp
     have HALL1:=hd_ hall1
     have hx2:x<P.I+(P.bs.length:Int):=hx.2
     have hx1:=hx.1
     clear hx htk hall1
     generalize ((inL P.bs q).take m).all (rdyB P.I P.bs D)=r at HALL1
     by_cases hneg:x<P.I
     ·have he:rdyB P.I P.bs D x=true:=by unfold rdyB;rw [decide_eq_true (by omega)];rfl
      have HE:=hd_ he
      have hneg':¬ P.I<=x:=by omega
      clear he
      go_wp2_with fail
      go_round
      case rel=>exact ⟨m+1,by omega,by go_num,by rw [HALL1.out,HE.out,Bool.and_true]⟩
      case measure=>simp [intOf];omega
     obtain ⟨p,hp,hpn⟩:=int_sub_nat hneg hx2
     have hpb:p<P.bs.length:=by omega
     obtain ⟨a',hA',-,-,-,d2,-⟩:=(HIN.out.blocks.later R3.out.below).block hpb
     rw [HA.out] at hA'
     obtain rfl:=Option.some.inj hA'
     rw [<- ffAt_get hpb] at d2
     have hpi:P.I<=x:=by omega
     obtain ⟨e0,-⟩:=R3.out.cell hpb
     have he:rdyB P.I P.bs D x=(ffAt P.bs p||D.getD p false):=by unfold rdyB;rw [hp,decide_eq_false (by omega)];simp
     have HE:=hd_ he
     clear he hA'
     generalize D.getD p false=dp at e0 HE
     cases hfq:ffAt P.bs p with
     | true =>
      rw [hfq] at d2 HE
      clear hfq
      go_wp2_with fail
      go_round
      case rel=>exact ⟨m+1,by omega,by go_num,by rw [HALL1.out,HE.out];simp⟩
      case measure=>simp [intOf];omega
     | false =>
      rw [hfq] at d2 HE
      clear hfq
      cases dp with
      | true =>
       go_wp2_with fail
       go_round
       case rel=>exact ⟨m+1,by omega,by go_num,by rw [HALL1.out,HE.out];simp⟩
       case measure=>simp [intOf];omega
      | false =>
       go_wp2_with fail
       go_round
       case rel=>exact ⟨m+1,by omega,by go_num,by rw [HALL1.out,HE.out];simp⟩
       case measure=>simp [intOf];omega
end Go.Proofs.YtmkiphadkmodnaaGreat
namespace Go.Proofs.YtmkiphadkmodnaaGreat
open Go.RowKit Topo
def RORD (P:PK) (w:World) (R:Ending->World->Prop):Prop :=
 Calls Tryz.prog 125 #[.agg #[.int .i64 P.I,.slice P.AB P.bs.length P.cB,.slice P.AO P.outs.length P.cO]] w R
theorem may_block {P:PK} {wx:World} (hin:P.In wx) {i:Nat} (hi:i<P.bs.length):∃ (a:Addr) (b:BL),P.AB=some a∧b.ff=ffAt P.bs i∧b.it=itAt P.bs i ∧
  wx.cell? (a.add (i*4))=some (.slice b.A b.l.length b.c)∧wx.cell? ⟨(a.add (i*4)).block,(a.add (i*4)).off+1,none⟩=some (.int .i64 b.t)∧wx.cell? ⟨(a.add (i*4)).block,(a.add (i*4)).off+2,none⟩=some (.bool b.ff)∧wx.cell? ⟨(a.add (i*4)).block,(a.add (i*4)).off+3,none⟩=some (.bool b.it):=by
 obtain ⟨a,hA,-,c0,c1,c2,c3⟩:=hin.blocks.block hi
 exact ⟨a,P.bs[i],hA,(ffAt_get hi).symm,(itAt_get hi).symm,c0,c1,c2,c3⟩
theorem many_all {P:PK} {O:List Nat} (h:Part (depE P.E) P.S O) (he:O.length=manyTo P.bs P.bs.length):All (depE P.E) P.S O:=h.all_of_len (fun b hb=>PK.S_lt hb) he
theorem many_no {P:PK} {O:List Nat} (h:Part (depE P.E) P.S O) (hs:O.length=P.bs.length∨StuckP P O) (he:O.length≠manyTo P.bs P.bs.length):∀ m,¬ All (depE P.E) P.S m:=fun m hm=>by
 have hlm:m.length=manyTo P.bs P.bs.length:=hm.len (fun b hb=>PK.S_lt hb)
 rcases hs with hl|hs
 ·have:=manyTo_le P.bs P.bs.length
  have h2:=sub_len h.nodup (fun x hx=>hm.all x (h.mem x hx))
  omega
 ·have ha:=Topo.stuck h hs hm
  have h1:=sub_len h.nodup (fun x hx=>hm.all x (h.mem x hx))
  have h2:=sub_len hm.nodup (fun x hx=>ha x (hm.mem x hx))
  omega
theorem rOrder_no (P:PK) (w:World) (hin:P.In w) (hf:P.fit) (h:¬ P.may):RORD P w fun e w'=>e=.returned (.tuple #[.slice none 0 0,.int .i64 1])∧Below w.heap.size w w':=by
 have T0:=hd_ (MW.new w P)
 have hm:=rmay_any P _ (hin.later (bn_ w (.cells #[.int .i64 P.I,.slice P.AB P.bs.length P.cB,.slice P.AO P.outs.length P.cO] 27))) hf
 unfold RMAY at hm
 unfold RORD
 have HM:=hd_ hm
 have HNO:=hd_ h
 clear hm hin hf h
 obtain ⟨k0,k1,k2⟩:=T0.out.cells
 go_enter Tryz.func125,Tryz.ntmps125
 go_wp2_with fail
 refine HM.out.mono ?_
 rintro e w1 ⟨rfl,hb⟩
 rw [decide_eq_false HNO.out]
 have T1:=hd_ (T0.out.keep hb)
 clear hb k0 k1 k2
 go_wp2_with fail
 go_ret2
 exact ⟨rfl,T1.out.below⟩
theorem rOrder_yes (P:PK) (w:World) (hin:P.In w) (hf:P.fit) (h:P.may):RORD P w (OrdOut P w):=by
 have T0:=hd_ (MW.new w P)
 have hm:=rmay_any P _ (hin.later (bn_ w (.cells #[.int .i64 P.I,.slice P.AB P.bs.length P.cB,.slice P.AO P.outs.length P.cO] 27))) hf
 have ho:=fun (W:World) (hB:Below w.heap.size w W)=>rorder_any P W (hin.later hB) h
 unfold RMAY at hm
 unfold RORD
 have HM:=hd_ hm
 have HO:=hd_ ho
 have HIN:=hd_ hin
 have HY:=hd_ h
 have hnb:=h.2.2.1
 obtain ⟨AB,hAB⟩:∃ A,P.AB=A:=⟨_,rfl⟩
 have HAB:=hd_ hAB
 clear hm ho hin hf h hAB
 obtain ⟨k0,k1,k2⟩:=T0.out.cells
 go_enter Tryz.func125,Tryz.ntmps125
 go_wp2_with fail
 refine HM.out.mono ?_
 rintro e w1 ⟨rfl,hb⟩
 rw [decide_eq_true HY.out]
 have T1:=hd_ (T0.out.keep hb)
 clear hb k0 k1 k2
 obtain ⟨k0,k1,k2⟩:=T1.out.cells
 go_wp2_with fail
 refine (HO.out _ T1.out.below).mono ?_
 rintro e w2 ⟨A,c,O,rfl,hb2,hr2,hP,hs⟩
 have T2:=hd_ (T1.out.keep hb2)
 have R2:=hd_ hr2
 have HP:=hd_ hP
 have HS:=hd_ hs
 clear hb2 hr2 hP hs k0 k1 k2
 obtain ⟨k0,k1,k2⟩:=T2.out.cells
 rw [HAB.out] at k1
 go_wp2_with fail
 go_loopw [5,16] (fun v i wx=>∃ k:Nat,k<=P.bs.length∧i=.int .i64 (k:Int)∧v=.int .i64 (manyTo P.bs k:Int)∧MW w wx w.heap.size P∧Rd wx 1 A O.length c (ints (natI O))) (fun _ i _=>P.bs.length-(intOf i).toNat)
 case atStart=>exact ⟨0,by omega,rfl,rfl,T2.out,R2.out⟩
 case round =>
  obtain ⟨k,hk,rfl,rfl,hT,hR⟩:=hrel
  have T3:=hd_ hT
  have R3:=hd_ hR
  clear hT hR T2 R2
  have hmt:=manyTo_le P.bs k
  by_cases hlt:k<P.bs.length
  case neg =>
   obtain rfl:k=P.bs.length:=by omega
   have hPc:=HP.out
   have hOr:=HS.out
   by_cases he:O.length=manyTo P.bs P.bs.length
   ·have HE:=hd_ (many_all hPc he)
    have he':((O.length:Int) != (manyTo P.bs P.bs.length:Int))=false:=by rw [bne_eq_false_iff_eq];omega
    clear he hPc hOr
    go_wp2_with fail
    go_ret2
    exact .inl ⟨A,c,O,rfl,HE.out,T3.out.below,R3.out⟩
   ·have HE:=hd_ (many_no hPc hOr he)
    have he':((O.length:Int) != (manyTo P.bs P.bs.length:Int))=true:=by rw [bne_iff_ne];omega
    clear he hPc hOr
    go_wp2_with fail
    go_ret2
    exact .inr ⟨rfl,HE.out,T3.out.below⟩
  have hnx:=manyTo_next P.bs k
  obtain ⟨a,b,hA,hff,-,c0,c1,c2,c3⟩:=may_block (HIN.out.later T3.out.below) hlt
  rw [HAB.out] at hA
  subst hA
  have hbn:=bn_ wr (.cells #[.slice b.A b.l.length b.c,.int .i64 b.t,.bool b.ff,.bool b.it] 62)
  have T4:=hd_ (T3.out.keep hbn)
  have R4:=hd_ (R3.out.later hbn)
  clear hbn
  rw [<- hff] at hnx
  have HNX:=hd_ hnx
  clear hnx hff
  generalize manyTo P.bs k=mt at hmt HNX
  cases hb:b.ff with
  | true =>
   rw [hb] at c2 T4 R4 HNX
   have HN1:=hd_ (show manyTo P.bs (k+1)=mt from by rw [HNX.out];simp)
   clear hb HNX
   go_wp2_with fail
   go_roundw
   case rel=>exact ⟨k+1,by omega,by go_num,by rw [HN1.out],T4.out,R4.out⟩
   case measure=>simp [intOf];omega
  | false =>
   rw [hb] at c2 T4 R4 HNX
   have HN1:=hd_ (show manyTo P.bs (k+1)=mt+1 from by rw [HNX.out];simp)
   clear hb HNX
   go_wp2_with fail
   go_roundw
   case rel=>exact ⟨k+1,by omega,by go_num,by rw [HN1.out];go_num,T4.out,R4.out⟩
   case measure=>simp [intOf];omega
theorem rCheck_any (P:PK) (w:World) (hin:P.In w) (hf:P.fit):Calls Tryz.prog 106 #[.agg #[.int .i64 P.I,.slice P.AB P.bs.length P.cB,.slice P.AO P.outs.length P.cO]] w (PchkOut P w):=by
 have T0:=hd_ (MW.new w P)
 have HI:=hd_ (hin.later (bn_ w (.cells #[.int .i64 P.I,.slice P.AB P.bs.length P.cB,.slice P.AO P.outs.length P.cO] 27)))
 have HF:=hd_ hf
 clear hin hf
 obtain ⟨k0,k1,k2⟩:=T0.out.cells
 by_cases hm:P.may
 ·have ho:=rOrder_yes P _ HI.out HF.out hm
  unfold RORD at ho
  have HO:=hd_ ho
  have HM:=hd_ hm
  clear ho hm
  go_enter Tryz.func106,Tryz.ntmps106
  go_wp2_with fail
  refine HO.out.mono ?_
  rintro e w1 (⟨A,c,O,rfl,hA,hb,-⟩|⟨rfl,hA,hb⟩)
  ·have T1:=hd_ (T0.out.keep hb)
   have HA:=hd_ hA
   clear hb hA
   go_wp2_with fail
   go_ret
   exact ⟨0,rfl,.inl ⟨rfl,HM.out,O,HA.out⟩,T1.out.below⟩
  ·have T1:=hd_ (T0.out.keep hb)
   have HA:=hd_ hA
   clear hb hA
   go_wp2_with fail
   go_ret
   exact ⟨321,rfl,.inr (.inr ⟨rfl,HM.out,HA.out⟩),T1.out.below⟩
 ·have ho:=rOrder_no P _ HI.out HF.out hm
  unfold RORD at ho
  have HO:=hd_ ho
  have HM:=hd_ hm
  clear ho hm
  go_enter Tryz.func106,Tryz.ntmps106
  go_wp2_with fail
  refine HO.out.mono ?_
  rintro e w1 ⟨rfl,hb⟩
  have T1:=hd_ (T0.out.keep hb)
  clear hb
  go_wp2_with fail
  go_ret
  exact ⟨1,rfl,.inr (.inl ⟨rfl,HM.out⟩),T1.out.below⟩
end Go.Proofs.YtmkiphadkmodnaaGreat
