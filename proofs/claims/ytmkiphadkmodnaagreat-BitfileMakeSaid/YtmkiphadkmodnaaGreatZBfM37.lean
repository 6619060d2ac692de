/- BfM, 37 -/
import Derived.Test.YtmkiphadkmodnaaGreatZBfM36
import Derived.Test.YtmkiphadkmodnaaGreatZBfM0
import Derived.Lib.SliceRun
import Derived.Deep.Slices
import Derived.Test.YtmkiphadkmodnaaGreatZBfM33
import Derived.Test.YtmkiphadkmodnaaGreatZBfM35
import Derived.Test.YtmkiphadkmodnaaGreatZBfM4
set_option linter.all false
set_option maxRecDepth 100000
set_option maxHeartbeats 8000000
namespace Go.Proofs.YtmkiphadkmodnaaGreat
open Go.RowKit
theorem wire_info:(Tryz.prog.info? 87).map (fun i=>(i.zero,i.size,i.bytes))=some (some (.agg #[.int .i64 0,.slice none 0 0]),2,32):=by kernel_rfl
theorem wire_one (f:Int) (A:Option Addr) (n c:Nat):∀ u ∈ [Value.int .i64 f,.slice A n c],u.oneCell'=true:=by
 intro u hu
 simp at hu
 rcases hu with rfl|rfl <;> rfl
structure WRow (wx:World) (base:Nat) (A:Option Addr) (nl c:Nat) (ws:List WM):Prop where
 row:wx.ownsRow base 87 2 (.slice A nl c) nl (wcells ws)
 all:∀ x ∈ ws,wx.ownsRow base 3 1 (.slice x.2.1 x.2.2.2.length x.2.2.1) x.2.2.2.length (ints x.2.2.2)
 len:ws.length=nl
theorem WRow.keep {wx wy:World} {base nl c:Nat} {A:Option Addr} {ws:List WM} (h:WRow wx base A nl c ws) (hb:Below wx.heap.size wx wy):WRow wy base A nl c ws:=⟨own_keep h.row hb,fun x hx=>own_keep (h.all x hx) hb,h.len⟩
theorem WRow.in_ {wx:World} {base nl c:Nat} {A:Option Addr} {ws:List WM} (h:WRow wx base A nl c ws):WsIn wx A c ws:=⟨by have:=Rd.of_own h.row;rw [<- h.len] at this;exact this,fun x hx=>Rd.of_own (h.all x hx)⟩
theorem WRow.push {wx w3:World} {base nl c c3 k d:Nat} {A A3 B:Option Addr} {f:Int} {L:List Int} {ws:List WM} {o:Obj} (h:WRow wx base A nl c ws) (hL:wx.ownsRow base 3 1 (.slice B k d) k (ints L)) (hk:L.length=k)
  (hown:w3.ownsRow base 87 2 (.slice A3 (nl+1) c3) (nl+1) (wcells ws++[.int .i64 f,.slice B k d])) (hg:(wx.alloc o).grownBy w3 (blkOf A)):WRow w3 base A3 (nl+1) c3 (ws++[(f,B,d,L)]):=by
 have h1:=h.keep (bn_ wx o)
 have hL1:=own_keep hL (bn_ wx o)
 generalize wx.alloc o=w1 at h1 hL1 hg
 subst hk
 have hg':w1.grownBy w3 (Value.slice A nl c).ownBlock:=by rw [own_blk];exact hg
 refine ⟨?_,fun x hx=>?_,by rw [List.length_append,h.len];rfl⟩
 ·rw [wcells_app];exact hown
 ·rcases List.mem_append.1 hx with hx|hx
  ·exact own_grown (h1.all x hx) h1.row (by decide) hg'
  ·rw [List.mem_singleton] at hx;subst hx
   exact own_grown hL1 h1.row (by decide) hg'
def WiresOut (W H T:Int) (P:PK) (S:SPT) (w:World) (e:Ending) (w':World):Prop :=
 (∃ x,e=.returned (.tuple #[.slice none 0 0,.int .i64 x])∧x≠0∧PlcR W H T P S x∧Below w.heap.size w w') ∨
 (PlcR W H T P S 0∧∃ A c ws,e=.returned (.tuple #[.slice A (ws:List WM).length c,.int .i64 0])∧Below w.heap.size w w'∧WsIn w' A c ws∧wpl ws=wiresP W H T P S)
theorem ChkR.may {P:PK} (h:ChkR P 0):P.may:=by
 rcases h with ⟨-,h,-⟩|⟨h,-⟩|⟨h,-⟩
 ·exact h
 ·cases h
 ·cases h
theorem wAt_len {W H T:Int} {P:PK} {S:SPT} (hm:P.may) (ho:P.outs.length<=100000) (n:Nat):(wAt W H T P S n).2.length<=200000:=by
 have h1:=atW_len (allEv W H T P S) (n:Int)
 unfold allEv at h1
 rw [List.length_append,evOut_len] at h1
 have h2:=evTo_len W H T S (fun b hb=>(hm.2.2.2.1 b hb).1) P.bs.length
 have:=hm.2.2.1
 show (atW (allEv W H T P S) (n:Int)).length<=_
 unfold allEv
 omega
theorem rwires_any (W H T:Int) (P:PK) (S:SPT) (w:World) (hin:P.In w) (hf:P.fit) (hsi:S.In w) (hsf:S.fit) :
  Calls Tryz.prog 25 #[.agg #[.int .i64 W,.int .i64 H,.int .i64 T],.agg #[.int .i64 P.I,.slice P.AB P.bs.length P.cB,.slice P.AO P.outs.length P.cO],.agg #[.slice S.AB S.sb.length S.cB,.slice S.AI S.si.length S.cI,.slice S.AO S.so.length S.cO]] w (WiresOut W H T P S w):=by
 have hb0:=bt_ (bt_ (bn_ w (.cells #[.int .i64 W,.int .i64 H,.int .i64 T] 23)) (bn_ _ (.cells #[.int .i64 P.I,.slice P.AB P.bs.length P.cB,.slice P.AO P.outs.length P.cO] 27))) (bn_ _ (.cells #[.slice S.AB S.sb.length S.cB,.slice S.AI S.si.length S.cI,.slice S.AO S.so.length S.cO] 29))
 have X0:=hd_ (((Blk.made w 23 #[.int .i64 W,.int .i64 H,.int .i64 T]).alloc (.cells #[.int .i64 P.I,.slice P.AB P.bs.length P.cB,.slice P.AO P.outs.length P.cO] 27)).alloc (.cells #[.slice S.AB S.sb.length S.cB,.slice S.AI S.si.length S.cI,.slice S.AO S.so.length S.cO] 29))
 have Y0:=hd_ ((blk_made1 w (.cells #[.int .i64 W,.int .i64 H,.int .i64 T] 23) 27 #[.int .i64 P.I,.slice P.AB P.bs.length P.cB,.slice P.AO P.outs.length P.cO]).alloc (.cells #[.slice S.AB S.sb.length S.cB,.slice S.AI S.si.length S.cI,.slice S.AO S.so.length S.cO] 29))
 have Z0:=hd_ (show Blk (((w.alloc (.cells #[.int .i64 W,.int .i64 H,.int .i64 T] 23)).alloc (.cells #[.int .i64 P.I,.slice P.AB P.bs.length P.cB,.slice P.AO P.outs.length P.cO] 27)).alloc (.cells #[.slice S.AB S.sb.length S.cB,.slice S.AI S.si.length S.cI,.slice S.AO S.so.length S.cO] 29)) (w.heap.size+1+1) 29 #[.slice S.AB S.sb.length S.cB,.slice S.AI S.si.length S.cI,.slice S.AO S.so.length S.cO] from by
  have:=Blk.made ((w.alloc (.cells #[.int .i64 W,.int .i64 H,.int .i64 T] 23)).alloc (.cells #[.int .i64 P.I,.slice P.AB P.bs.length P.cB,.slice P.AO P.outs.length P.cO] 27)) 29 #[.slice S.AB S.sb.length S.cB,.slice S.AI S.si.length S.cI,.slice S.AO S.so.length S.cO]
  simpa using this)
 have HB:=hd_ (rplace29_any W H T P S _ (hin.later hb0) hf (hsi.later hb0) hsf)
 have HW:=hd_ (fun (W':World) (n:Nat) (hW:Below w.heap.size w W') (hp:PlcR W H T P S 0) (hn:(n:Int)<P.I+(P.bs.length:Int))=>rwire_any W H T P S n W' (hin.later hW) hp.ok.2.1.may (hsi.later hW) hsf hp.ok.1 hp.ok.2.2 hn)
 have Q0:=hd_ hb0
 have HLEN:=hd_ (fun (n:Nat) (hp:PlcR W H T P S 0)=>wAt_len (W:=W) (H:=H) (T:=T) (S:=S) hp.ok.2.1.may (show P.outs.length<=100000 from by have h:=hp.ok.2.2.2.2.1;have:=hsf.o;omega) n)
 obtain ⟨RR,hRR⟩:∃ R,WiresOut W H T P S w=R:=⟨_,rfl⟩
 have HRR:=hd_ hRR
 rw [hRR]
 have HMI:=hd_ (fun (hp:PlcR W H T P S 0)=>(⟨hp.ok.2.1.may.1,hp.ok.2.1.may.2.1,hp.ok.2.1.may.2.2.1⟩:0<=P.I∧P.I<=1024∧P.bs.length<=1024))
 obtain ⟨nb,hnb⟩:∃ n,S.sb.length=n:=⟨_,rfl⟩
 obtain ⟨ni,hni⟩:∃ n,S.si.length=n:=⟨_,rfl⟩
 obtain ⟨no,hno⟩:∃ n,S.so.length=n:=⟨_,rfl⟩
 obtain ⟨pb,hpb⟩:∃ n,P.bs.length=n:=⟨_,rfl⟩
 obtain ⟨po,hpo⟩:∃ n,P.outs.length=n:=⟨_,rfl⟩
 obtain ⟨pI,hpI⟩:∃ n,P.I=n:=⟨_,rfl⟩
 simp only [hnb,hni,hno,hpb,hpo,hpI] at X0 Y0 Z0 Q0 HB HW HMI ⊢
 have HPB:=hd_ hpb
 have HPI:=hd_ hpI
 clear hnb hni hno hpb hpo hpI hin hf hsi hsf hb0 hRR
 have a0:=X0.out.cell 0
 have a1:=X0.out.cell 1
 have a2:=X0.out.cell 2
 have b0:=Y0.out.cell 0
 have b1:=Y0.out.cell 1
 have b2:=Y0.out.cell 2
 have c0:=Z0.out.cell 0
 have c1:=Z0.out.cell 1
 have c2:=Z0.out.cell 2
 go_enter Tryz.func25,Tryz.ntmps25
 go_wp2_with fail
 refine HB.out.mono ?_
 rintro e w1 ⟨x,rfl,hx,hb1⟩
 have Q1:=hd_ (bt_ Q0.out hb1)
 have X1:=hd_ (X0.out.keep hb1)
 have Y1:=hd_ (Y0.out.keep hb1)
 have Z1:=hd_ (Z0.out.keep hb1)
 have HX:=hd_ hx
 clear hb1 hx HB a0 a1 a2 b0 b1 b2 c0 c1 c2 X0 Y0 Z0
 by_cases hx0:x=0
 case neg =>
  have hne:(x != 0)=true:=by rw [bne_iff_ne];exact hx0
  have HNE:=hd_ hx0
  clear hx0
  go_wp2_with fail
  rw [<- HRR.out]
  exact .inl ⟨_,rfl,HNE.out,HX.out,Q1.out⟩
 subst hx0
 have hmi:=HMI.out HX.out
 obtain ⟨N,hN⟩:∃ N:Nat,pI+(pb:Int)=(N:Int):=⟨(pI+(pb:Int)).toNat,by omega⟩
 have hN3:N<=3000:=by omega
 have HN:=hd_ hN
 have O2:=hd_ (show WRow (w1.alloc (.cells #[] 87)) w1.heap.size (some ⟨w1.heap.size,0,none⟩) 0 0 [] from ⟨World.ownsRow_made (base:=w1.heap.size) (e:=87) (size:=2) w1 #[] 0 (by simp) (by unfold maxLen;omega) (by simp),fun x hx=>(by cases hx),rfl⟩)
 have B2:=hd_ (bn_ w1 (.cells #[] 87))
 go_wp2_with fail
 generalize w1.alloc (.cells #[] 87)=w2 at O2 B2 ⊢
 go_loopw [9,10] (fun v9 v10 wx=>∃ (n:Nat) (A:Option Addr) (nl c:Nat) (ws:List WM),n<=N∧v10=.int .i64 (n:Int)∧v9=.slice A nl c∧Below w1.heap.size w1 wx∧WRow wx w1.heap.size A nl c ws∧Hid (wpl ws=wireTo W H T P S n)) (fun _ v10 _=>N-(intOf v10).toNat)
 case atStart=>exact ⟨0,_,0,0,[],by omega,rfl,rfl,B2.out,O2.out,hd_ rfl⟩
 case round =>
  clear O2 B2
  obtain ⟨n,A,nl,c,ws,hn,rfl,rfl,hb,ho,HWS⟩:=hrel
  have B2:=hd_ hb
  have O2:=hd_ ho
  clear hb ho
  have hnl:nl<=100000:=by
   have h1:=O2.out.len
   have h2:=congrArg List.length HWS.out
   unfold wpl wireTo at h2
   rw [List.length_map] at h2
   have h3:=List.length_filter_le (fun w:WP=>!w.2.isEmpty) ((List.range n).map (wAt W H T P S))
   rw [List.length_map,List.length_range] at h3
   omega
  have hX:=X1.out.keep B2.out
  have hY:=Y1.out.keep B2.out
  have hZ:=Z1.out.keep B2.out
  have a0:=hX.cell 0
  have a1:=hX.cell 1
  have a2:=hX.cell 2
  have b0:=hY.cell 0
  have b1:=hY.cell 1
  have b2:=hY.cell 2
  have c0:=hZ.cell 0
  have c1:=hZ.cell 1
  have c2:=hZ.cell 2
  clear hX hY hZ
  by_cases hnN:n<N
  case neg =>
   obtain rfl:N=n:=by omega
   have hlt:¬ (N:Int)<(N:Int):=by omega
   go_wp2_with fail
   rw [<- HRR.out]
   have hl:=O2.out.len
   have hi:=O2.out.in_
   subst hl
   exact .inr ⟨HX.out,A,c,ws,rfl,bt_ Q1.out B2.out,hi,by rw [HWS.out];unfold wiresP;rw [HPB.out,HPI.out,show pI.toNat+pb=N by have:=HN.out;omega]⟩
  have hnN':(n:Int)<(N:Int):=by omega
  have HCW:=hd_ (HW.out wr n (bt_ Q1.out B2.out) HX.out (by rw [HN.out];exact hnN'))
  have hvl:=HLEN.out n HX.out
  obtain ⟨V,hV⟩:∃ V,wAt W H T P S n=V:=⟨_,rfl⟩
  have HV:=hd_ hV
  rw [hV] at HCW hvl
  clear hV
  go_wp2_with fail
  refine HCW.out.mono ?_
  rintro e w3 ⟨Aw,cw,rfl,hb3,ho3⟩
  obtain ⟨f,L⟩:=V
  simp only at ho3 hvl ⊢
  obtain ⟨kl,hkl⟩:∃ k,L.length=k:=⟨_,rfl⟩
  have HKL:=hd_ hkl
  rw [hkl] at ho3 hvl ⊢
  have B3:=hd_ (bt_ B2.out hb3)
  have O3:=hd_ (O2.out.keep hb3)
  have L3:=hd_ (show w3.ownsRow w1.heap.size 3 1 (.slice Aw kl cw) kl (ints L) from own_base_le ho3 B2.out.size)
  have T4:=hd_ (Blk.made w3 87 #[.int .i64 f,.slice Aw kl cw])
  have B4:=hd_ (bt_ B3.out (bn_ w3 (.cells #[.int .i64 f,.slice Aw kl cw] 87)))
  have O4:=hd_ (O3.out.keep (bn_ w3 (.cells #[.int .i64 f,.slice Aw kl cw] 87)))
  have L4:=hd_ (own_keep L3.out (bn_ w3 (.cells #[.int .i64 f,.slice Aw kl cw] 87)))
  have t0:=T4.out.cell 0
  have t1:=T4.out.cell 1
  clear hb3 ho3 hkl HCW a0 a1 a2 b0 b1 b2 c0 c1 c2 O2 B2 O3 L3 t0 t1
  go_upto_region 9 with (fail)
  generalize w3.alloc (.cells #[.int .i64 f,.slice Aw kl cw] 87)=w4 at T4 B4 O4 L4 ⊢
  generalize w3.heap.size=g4 at T4 ⊢
  have t0:=T4.out.cell 0
  have t1:=T4.out.cell 1
  by_cases hk0:kl=0
  ·have hk0':¬ (0:Int)<(kl:Int):=by omega
   have HNX:=hd_ (show wireTo W H T P S (n+1)=wireTo W H T P S n from wireTo_no (by rw [HV.out];exact List.length_eq_zero_iff.1 (by rw [HKL.out];exact hk0)))
   clear hk0
   go_wp2_with fail
   go_roundw
   case rel=>exact ⟨n+1,A,nl,c,ws,by omega,by go_num,rfl,B4.out,O4.out,hd_ (by rw [HNX.out,HWS.out])⟩
   case measure=>simp [intOf];omega
  have hk0':(0:Int)<(kl:Int):=by omega
  have HNX:=hd_ (show wireTo W H T P S (n+1)=wireTo W H T P S n++[(f,L)] from by
   rw [wireTo_yes (by rw [HV.out];intro e;apply hk0;rw [<- HKL.out];exact List.length_eq_zero_iff.2 e),HV.out])
  have hsz4:=B4.out.size
  go_wp2_with (at_builtin;refine wpList_app_at rfl (.tmp 39) (.tmp 41) 53 87 rfl Tryz.underlying53 _ 2 32 wire_info rfl (by decide) (by decide) w1.heap.size A nl c (wcells ws) rfl (O4.out.row.alloc _) ⟨w4.heap.size,0,none⟩ 1 [.int .i64 f,.slice Aw kl cw] rfl (rd_of_blk (Blk.made _ _ _) 2 1 rfl) (wire_one _ _ _ _) (by omega) (by simp;omega) ?_)
  intro A9 c9 w9 hown9 hgr9 hat9
  have O9:=hd_ (O4.out.push L4.out HKL.out hown9 hgr9)
  have B9:=hd_ ((bt_ B4.out (bn_ _ _)).grown hgr9 (by simp;omega) (fun k hk=>own_base O4.out.row (by rw [own_blk];exact hk)))
  clear hown9 hgr9 hat9 t0 t1
  go_wp2_with fail
  go_roundw
  case rel=>exact ⟨n+1,A9,nl+1,c9,ws++[(f,Aw,cw,L)],by omega,by go_num,rfl,B9.out,O9.out,hd_ (by rw [HNX.out,<- HWS.out];unfold wpl;rw [List.map_append];rfl)⟩
  case measure=>simp [intOf];omega
def ClonedI (n:Nat) (l:List Int) (w:World) (e:Ending) (w':World):Prop:=∃ A c,e=.returned (.slice A n c)∧Below w.heap.size w w'∧w'.ownsRow w.heap.size 3 1 (.slice A n c) n (ints l)
theorem clone_ints (w:World) (A:Option Addr) (n c:Nat) (l:List Int) (hr:Rd w 1 A n c (ints l)) (hn:n<=1000000) :
  Calls Tryz.prog 21 #[.slice A n c] w (ClonedI n l w):=by
 cases A with
 | none =>
  have hc:c=0:=hr.nil rfl
  have hn0:n=0:=by have:=hr.cap;omega
  subst hc hn0
  have hl:l=[]:=List.eq_nil_of_length_eq_zero (by have:=hr.len;rw [ints_length] at this;omega)
  subst hl
  have hq:∀ (w:World),(binOp .eql 25 (.slice none 0 0) (.slice none 0 0)).run Tryz.prog w=.ok (.bool true) w:=fun _=>by kernel_rfl
  clear hr
  go_enter Tryz.func21,Tryz.ntmps21
  go_wp2_with fail
  go_ret
  exact ⟨none,0,rfl,br_,World.ownsRow_nil _ _ _ _⟩
 | some a =>
  have hq:∀ (w:World),(binOp .eql 25 (.slice (some a) n c) (.slice none 0 0)).run Tryz.prog w=.ok (.bool false) w:=fun w=>Lib.run_eql_slice_nil w 25 3 a n c 0 0 Tryz.underlying25
  have R1:=hd_ (hr.later (bn_ w (.cells #[] 3)))
  have O1:=hd_ (World.ownsRow_made (base:=w.heap.size) (e:=3) (size:=1) w #[] 0 (Nat.le_refl _) (Nat.zero_le _) rfl)
  clear hr
  go_enter Tryz.func21,Tryz.ntmps21
  go_wp2_with (at_builtin;refine wpList_app_ints rfl (.tmp 5) (.tmp 6) rfl w.heap.size (some ⟨w.heap.size,0,none⟩) 0 0 [] rfl O1.out (some a) n c l rfl R1.out (by omega) (by simp) ?_)
  intro A7 c7 w7 O7 g7
  have B7:=hd_ ((bn_ w (.cells #[] 3)).grown g7 (by simp) (fun k hk=>by have:=own_base O1.out hk;simpa using this))
  have O7':=hd_ O7
  clear O7 g7 O1 R1
  go_wp2_with fail
  go_ret
  exact ⟨A7,c7,by simp,B7.out,by simpa using O7'.out⟩
def NotFall (l:List Int):Prop:=∀ k,k+1<l.length->l.getD k 0<=l.getD (k+1) 0
def NotSame (l:List Int):Prop:=∀ k,k+1<l.length->l.getD k 0≠l.getD (k+1) 0
def AscL (l:List Int):Prop:=∀ k,k+1<l.length->l.getD k 0<l.getD (k+1) 0
noncomputable instance (l:List Int):Decidable (NotFall l):=Classical.propDecidable _
noncomputable instance (l:List Int):Decidable (NotSame l):=Classical.propDecidable _
noncomputable instance (l:List Int):Decidable (AscL l):=Classical.propDecidable _
theorem asc_iff (l:List Int):AscL l↔NotFall l∧NotSame l :=
 ⟨fun h=>⟨fun k hk=>by have:=h k hk;omega,fun k hk=>by have:=h k hk;omega⟩,fun h k hk=>by have:=h.1 k hk;have:=h.2 k hk;omega⟩
theorem less_any (a b:Int) (w:World):Calls Tryz.prog 97 #[.int .i64 a,.int .i64 b] w fun e w'=>e=.returned (.bool (decide (a<b)))∧w=w':=by
 obtain ⟨d,hd⟩:∃ d,decide (a<b)=d:=⟨_,rfl⟩
 rw [hd]
 go_enter Tryz.func97,Tryz.ntmps97
 go_wp2_with (go_at_call 105;refine (isNaN_any _ _).mono ?_;rintro e w1 ⟨rfl,rfl⟩)
 go_ret
 exact ⟨rfl,rfl⟩
theorem isSorted_any (A:Option Addr) (n c:Nat) (l:List Int) (w:World) (hr:Rd w 1 A n c (ints l)) (hn:n<=100000) :
  Calls Tryz.prog 56 #[.slice A n c] w fun e w'=>e=.returned (.bool (decide (NotFall l)))∧Below w.heap.size w w':=by
 have hl:n=l.length:=by have:=hr.len;rw [ints_length] at this;omega
 have HL:=hd_ hl
 have HR:=hd_ hr
 obtain ⟨d,hd⟩:∃ d,decide (NotFall l)=d:=⟨_,rfl⟩
 have HD:=hd_ hd
 rw [hd]
 clear hl hr hd
 by_cases h0:n=0
 ·subst h0
  have hz:=hd_ (show d=true by rw [<- HD.out];exact decide_eq_true (fun k hk=>by have:=HL.out;omega))
  go_enter Tryz.func56,Tryz.ntmps56
  go_wp2_with fail
  go_loopw [3] (fun v3 wx=>v3=.int .i64 (-1)∧Below w.heap.size w wx) (fun _ _=>0)
  case atStart=>exact ⟨rfl,br_⟩
  case round =>
   obtain ⟨rfl,hB⟩:=hrel
   have B1:=hd_ hB
   clear hB
   go_wp2_with fail
   go_ret
   exact ⟨by rw [hz.out];rfl,B1.out⟩
 obtain ⟨m,rfl⟩:∃ m,n=m+1:=⟨n-1,by omega⟩
 have hm1:((m+1:Nat):Int)-1=(m:Int):=by omega
 clear h0
 go_enter Tryz.func56,Tryz.ntmps56
 go_wp2_with fail
 go_loopw [3] (fun v3 wx=>∃ i:Nat,i<=m∧v3=.int .i64 (i:Int)∧Below w.heap.size w wx∧Hid (∀ k,i<=k->k+1<l.length->l.getD k 0<=l.getD (k+1) 0)) (fun v3 _=>(intOf v3).toNat)
 case atStart=>exact ⟨m,Nat.le_refl _,by go_num,br_,hd_ (fun k hk hk2=>by have:=HL.out;omega)⟩
 case round =>
  clear hm1
  obtain ⟨i,hi,rfl,hB,HS⟩:=hrel
  have B1:=hd_ hB
  clear hB
  by_cases h0:i=0
  ·subst h0
   have hz:=hd_ (show d=true by rw [<- HD.out];exact decide_eq_true (fun k hk=>HS.out k (Nat.zero_le _) hk))
   go_wp2_with fail
   go_ret
   exact ⟨by rw [hz.out];rfl,B1.out⟩
  obtain ⟨j,rfl⟩:∃ j,i=j+1:=⟨i-1,by omega⟩
  have hj1:((j+1:Nat):Int)-1=(j:Int):=by omega
  have hj0:(0:Int)<((j+1:Nat):Int):=by omega
  have hjm:((j+1:Nat):Int)<((m+1:Nat):Int):=by omega
  have hjm2:(j:Int)<((m+1:Nat):Int):=by omega
  obtain ⟨a,hA,hab,e1⟩:=(HR.out.later B1.out).int (k:=j+1) (by omega)
  obtain ⟨a',hA',-,e0⟩:=(HR.out.later B1.out).int (k:=j) (by omega)
  rw [hA] at hA'
  obtain rfl:=Option.some.inj hA'
  have HBAD:=hd_ (show l.getD (j+1) 0<l.getD j 0->d=false from fun h=>by rw [<- HD.out];exact decide_eq_false (fun hs=>by have:=hs j (by have:=HL.out;omega);omega))
  have HGO:=hd_ (show ¬ l.getD (j+1) 0<l.getD j 0->∀ k,j<=k->k+1<l.length->l.getD k 0<=l.getD (k+1) 0 from fun h k hk hk2=>by
   rcases Nat.eq_or_lt_of_le hk with e|e
   ·rw [<- e];omega
   ·exact HS.out k (by omega) hk2)
  rw [hA]
  clear hA hA'
  generalize l.getD (j+1) 0=x at e1 HBAD HGO
  generalize l.getD j 0=y at e0 HBAD HGO
  obtain ⟨jj,hjj⟩:∃ jj:Nat,j+1=jj:=⟨_,rfl⟩
  have HJJ:=hd_ hjj
  rw [hjj] at hj1 hj0 hjm e1 ⊢
  clear hjj
  obtain ⟨b,hb⟩:∃ b,decide (x<y)=b:=⟨_,rfl⟩
  have HLE:=hd_ (fun (W:World)=>less_any x y W)
  rw [hb] at HLE
  have HB:=hd_ hb
  clear hb
  go_wp2_with fail
  refine wp_region_still_in (by kernel_rfl) (by kernel_rfl) fun St9 ne9 V9 hV9 hS9=>?_
  have qe0:=still_cell hV9 e0
  have qe1:=still_cell hV9 e1
  repeat (first|go_big_quiet_step (first|(go_at_call 97;with_reducible exact Calls.still_same hS9 (HLE.out _)))|quiet_step (first|(go_at_call 97;with_reducible exact Calls.still_same hS9 (HLE.out _))))
  refine wpQuiet_nil ?_
  intro _ hw9
  obtain ⟨s9,rfl⟩:=hw9
  have hb9:=hV9 s9
  clear qe0 qe1 hS9
  generalize V9 s9=w9 at hb9 ⊢
  clear hV9 s9 V9 ne9 St9
  have B9:=hd_ (bt_ B1.out hb9)
  clear hb9 e0 e1
  cases b with
  | true =>
   have hz:=hd_ (HBAD.out (of_decide_eq_true HB.out))
   go_wp2_with fail
   go_ret
   exact ⟨by rw [hz.out];rfl,B9.out⟩
  | false =>
   have hz:=hd_ (HGO.out (by have:=of_decide_eq_false HB.out;omega))
   go_wp2_with fail
   go_roundw
   case rel=>exact ⟨j,by have:=HJJ.out;omega,by go_num,B9.out,hz⟩
   case measure=>simp [intOf];have:=HJJ.out;omega
structure AW (w0:World) (ga N:Nat) (f:Nat->Nat) (ws:List WM) (wx:World):Prop where
 below:Below w0.heap.size w0 wx
 lo:w0.heap.size<=ga
 all:Blk wx ga 87 (wcells ws).toArray
 box:Blk wx (ga+1) 53 #[.slice (some ⟨ga,0,none⟩) N N]
 len:ws.length=N
 rows:∀ (k:Nat) (x:WM),ws[k]? = some x->wx.ownsRow w0.heap.size 3 1 (.slice x.2.1 x.2.2.2.length x.2.2.1) x.2.2.2.length (ints x.2.2.2)∧∀ g,blkOf x.2.1=some g->f g=k
section
variable {w0 wx wy w3 : World} {ga N k : Nat} {f : Nat → Nat} {ws : List WM}
theorem AW.drew (h:AW w0 ga N f ws wx):AW w0 ga N f ws wx.drew:=⟨h.below.drew,h.lo,h.all,h.box,h.len,fun k x hx=>⟨(h.rows k x hx).1.drew,(h.rows k x hx).2⟩⟩
theorem AW.keep (h:AW w0 ga N f ws wx) (hb:Below wx.heap.size wx wy):AW w0 ga N f ws wy:=⟨bt_ h.below hb,h.lo,h.all.keep hb,h.box.keep hb,h.len,fun k x hx=>⟨own_keep (h.rows k x hx).1 hb,(h.rows k x hx).2⟩⟩
theorem wcells_set (ws:List WM) (k:Nat) (hk:k<ws.length) (y:WM):wcells (ws.set k y)=((wcells ws).set (k*2) (.int .i64 y.1)).set (k*2+1) (slv y.2):=by
 induction ws generalizing k with
 | nil=>cases hk
 | cons w ws ih =>
  have e:∀ w:WM,∀ ws:List WM,wcells (w::ws)=.int .i64 w.1::slv w.2::wcells ws:=fun w ws=>rfl
  cases k with
  | zero=>rw [List.set_cons_zero,e,e];rfl
  | succ k =>
   rw [List.set_cons_succ,e,e,ih k (by simpa using hk),show (k+1)*2=k*2+1+1 by omega]
   rfl
theorem list_set_same {α:Type} {l:List α} {i:Nat} {v:α} (h:l[i]? = some v):l.set i v=l:=by
 apply List.ext_getElem?
 intro j
 rw [List.getElem?_set]
 by_cases e:i=j
 ·subst e
  rw [if_pos rfl,h,if_pos (List.getElem?_eq_some_iff.1 h).1]
 ·rw [if_neg e]
theorem AW.from_ (h:AW w0 ga N f ws wx) (hk:k<ws.length) (v:Int):AW w0 ga N f (ws.set k (v,ws[k].2)) (wx.setCell ⟨ga,k*2,none⟩ (.int .i64 v)):=by
 have hC:=Chg.set wx ga (k*2) (.int .i64 v)
 refine ⟨hC.below h.below h.below.size (fun q hq=>by rw [hq];exact h.lo),h.lo,?_,hC.blk h.box (by omega),by rw [List.length_set];exact h.len,fun j x hj=>?_⟩
 ·have h2:=h.all.put (k*2) (.int .i64 v)
  rw [List.setIfInBounds_toArray] at h2
  rw [wcells_set ws k hk]
  have h3:=(wcells_get ws k hk).2
  rw [list_set_same (show ((wcells ws).set (k*2) (Value.int .i64 v))[k*2+1]? = some (slv ws[k].2) by rw [List.getElem?_set_ne (by omega)];exact h3)]
  exact h2
 ·have hx:∃ y,ws[j]? = some y∧y.2=x.2:=by
   rw [List.getElem?_set] at hj
   by_cases e:k=j
   ·subst e
    rw [if_pos rfl,if_pos hk] at hj
    cases hj
    exact ⟨_,List.getElem?_eq_getElem hk,rfl⟩
   ·rw [if_neg e] at hj
    exact ⟨x,hj,rfl⟩
  obtain ⟨y,hy,hyx⟩:=hx
  have hr:=h.rows j y hy
  rw [hyx] at hr
  exact ⟨hC.own hr.1 (fun g e hk=>own_other hr.1 h.all (by decide) (by rw [e,hk])),hr.2⟩
theorem AW.turn {A3:Option Addr} {c3:Nat} {v:Int} {o:Obj} (h:AW w0 ga N f ws wx) (hk:k<ws.length)
  (hown:w3.ownsRow w0.heap.size 3 1 (.slice A3 (ws[k].2.2.2.length+1) c3) (ws[k].2.2.2.length+1) (ints (ws[k].2.2.2++[v])))
  (hg:(wx.alloc o).grownBy w3 (blkOf ws[k].2.1)) (hat:blkOf A3=blkOf ws[k].2.1∨blkOf A3=some (wx.alloc o).heap.size) :
  AW w0 ga N (named f wx.heap.size k) (ws.set k (ws[k].1,A3,c3,ws[k].2.2.2++[v])) (w3.setCell ⟨ga,k*2+1,none⟩ (.slice A3 (ws[k].2.2.2.length+1) c3)):=by
 have h1:=h.keep (bn_ wx o)
 have hs1:(wx.alloc o).heap.size=wx.heap.size+1:=by simp
 have hrk:=h1.rows k ws[k] (List.getElem?_eq_getElem hk)
 have hrk0:=h.rows k ws[k] (List.getElem?_eq_getElem hk)
 have hne:∀ g,(Value.slice ws[k].2.1 ws[k].2.2.2.length ws[k].2.2.1).ownBlock≠some g->some g≠blkOf ws[k].2.1:=fun g h e=>h (by rw [own_blk];exact e.symm)
 have hall:=h1.all.grown hg (hne _ (own_other hrk.1 h1.all (by decide)))
 have hbox:=h1.box.grown hg (hne _ (own_other hrk.1 h1.box (by decide)))
 have hbel:=h1.below.grown hg h1.below.size (fun q hq=>own_base hrk.1 (by rw [own_blk];exact hq))
 have hC:=Chg.set w3 ga (k*2+1) (.slice A3 (ws[k].2.2.2.length+1) c3)
 refine ⟨hC.below hbel hbel.size (fun q hq=>by rw [hq];exact h.lo),h.lo,?_,hC.blk hbox (by omega),by rw [List.length_set];exact h.len,fun j x hj=>?_⟩
 ·have h2:=hall.put (k*2+1) (.slice A3 (ws[k].2.2.2.length+1) c3)
  rw [List.setIfInBounds_toArray] at h2
  rw [wcells_set ws k hk]
  have h3:=(wcells_get ws k hk).1
  rw [list_set_same h3]
  have e:slv (A3,c3,ws[k].2.2.2++[v])=.slice A3 (ws[k].2.2.2.length+1) c3:=by unfold slv;simp
  show Blk _ ga _ ((wcells ws).set (k*2+1) (slv (A3,c3,ws[k].2.2.2++[v]))).toArray
  rw [e];exact h2
 ·rw [List.getElem?_set] at hj
  by_cases e:k=j
  ·subst e
   rw [if_pos rfl,if_pos hk] at hj
   cases hj
   refine ⟨?_,?_⟩
   ·have ho:=hC.own hown (fun g e hk=>own_other hown hall (by decide) (by rw [e,hk]))
    show World.ownsRow _ _ _ _ (.slice A3 (ws[k].2.2.2++[v]).length c3) (ws[k].2.2.2++[v]).length _
    rw [show (ws[k].2.2.2++[v]).length=ws[k].2.2.2.length+1 by simp]
    exact ho
   ·refine named_new hrk0.2 (fun g hg=>(hrk0.1.lt g (by rw [own_blk];exact hg)).2) ?_
    rcases hat with hat|hat
    ·exact .inl hat
    ·exact .inr (fun g hg=>by rw [show blkOf A3=some g from hg] at hat;have:=Option.some.inj hat;omega)
  ·rw [if_neg e] at hj
   have hr:=h1.rows j x hj
   have hr0:=h.rows j x hj
   have hd:∀ g,(Value.slice x.2.1 x.2.2.2.length x.2.2.1).ownBlock=some g->¬ some g=blkOf ws[k].2.1:=fun g hg1 hg2=>by
    rw [own_blk] at hg1
    have e1:=hr.2 g hg1
    have e2:=hrk.2 g hg2.symm
    omega
   have ho:=(Chg.of_grown hg).own hr.1 hd
   refine ⟨hC.own ho (fun g e hk=>own_other ho hall (by decide) (by rw [e,hk])),fun g hg=>?_⟩
   rw [named_old f (hr0.1.lt g (by rw [own_blk];exact hg)).2]
   exact hr0.2 g hg
end
theorem to_any (w0:World) (ga N k:Nat) (f:Nat->Nat) (ws:List WM) (v:Int) (w:World) (h:AW w0 ga N f ws w) (hk:k<ws.length) (hl:ws[k].2.2.2.length<=1000000) :
  Calls Tryz.prog 48 #[.int .i64 (k:Int),.int .i64 v,.pointer (some ⟨ga+1,0,none⟩)] w fun r w'=>r=.returned (.tuple #[])∧∃ f' A3 c3,AW w0 ga N f' (ws.set k (ws[k].1,A3,c3,ws[k].2.2.2++[v])) w':=by
 have HA:=hd_ h
 have B0:=hd_ h.box
 have b0:=h.box.cell 0
 have hN:(k:Int)<(N:Int):=by have:=h.len;omega
 have hrow:=(h.rows k ws[k] (List.getElem?_eq_getElem hk)).1
 have hc:=h.all.cell (k*2+1)
 rw [List.getElem?_toArray,(wcells_get ws k hk).2] at hc
 have HKL:=hd_ hk
 have HWK:=hd_ (show ∀ o,(w.alloc o).cell? ⟨ga,k*2+1,none⟩=some (slv ws[k].2) from fun o=>by rw [(h.all.alloc o).cell (k*2+1),List.getElem?_toArray,(wcells_get ws k hk).2];rfl)
 have HTU:=hd_ (fun (A3:Option Addr) (c3:Nat) (w3:World) (o:Obj) (hown:w3.ownsRow w0.heap.size 3 1 (.slice A3 (ws[k].2.2.2.length+1) c3) (ws[k].2.2.2.length+1) (ints (ws[k].2.2.2++[v]))) (hg:(w.drew.alloc o).grownBy w3 (blkOf ws[k].2.1)) (hat:blkOf A3=blkOf ws[k].2.1∨blkOf A3=some (w.drew.alloc o).heap.size)=>h.drew.turn hk hown hg hat)
 clear h
 generalize ws[k]'hk=y at hl hrow hc HWK HTU ⊢
 obtain ⟨fw,A,c,L⟩:=y
 simp only [slv] at hl hrow hc HWK HTU ⊢
 obtain ⟨nl,hnl⟩:∃ n,L.length=n:=⟨_,rfl⟩
 rw [hnl] at hl hrow hc HWK HTU
 clear hnl
 have O:=hd_ hrow
 have k18:=hc
 have k18b:=HWK.out
 have ALL:=hd_ HA.out.all
 clear hrow hc HWK
 go_enter Tryz.func48,Tryz.ntmps48
 refine wp_region_held_drew (S:=(fun w'=>w'.cell? ⟨ga+1,0,none⟩=some (.slice (some ⟨ga,0,none⟩) N N))) (by kernel_rfl) ?_ (fun hh=>?_)
 ·(first|exact b0|exact (B0.out.alloc _).cell 0|exact B9.out.cell 0|exact (B9.out.apart (p:=⟨ga,k*2+1,none⟩) (by show ga+1≠ga;omega) _).cell 0)
 refine tk_ 0 (⟨some 5,.load 53 (.tmp 2),53,_,#[],none⟩) (v:=?_) ?_ ?_
 rotate_left
 ·intro w hSw;(try dsimp only at hSw);go_simp;(try with_reducible rfl)
 try simp only [Act.put,la_,lz_,ls_]
 refine tk_ 1 (⟨some 6,.move (.tmp 0),3,_,#[],none⟩) (v:=?_) ?_ ?_
 rotate_left
 ·intro w hSw;(try dsimp only at hSw);go_simp;(try with_reducible rfl)
 try simp only [Act.put,la_,lz_,ls_]
 refine tk_ 2 (⟨some 7,.load 53 (.tmp 2),53,_,#[],none⟩) (v:=?_) ?_ ?_
 rotate_left
 ·intro w hSw;(try dsimp only at hSw);go_simp;(try with_reducible rfl)
 try simp only [Act.put,la_,lz_,ls_]
 refine tk_ 3 (⟨some 8,.move (.tmp 0),3,_,#[],none⟩) (v:=?_) ?_ ?_
 rotate_left
 ·intro w hSw;(try dsimp only at hSw);go_simp;(try with_reducible rfl)
 try simp only [Act.put,la_,lz_,ls_]
 refine tk_ 4 (⟨some 9,.indexAddr 53 (.tmp 7) (.tmp 8),0,_,#[⟨2,.data⟩,⟨3,.data⟩],none⟩) (v:=?_) ?_ ?_
 rotate_left
 ·intro w hSw;(try dsimp only at hSw);go_simp;(try with_reducible rfl)
 try simp only [Act.put,la_,lz_,ls_]
 refine tk_ 5 (⟨some 10,.fieldAddr 87 (.tmp 9) 1,0,_,#[⟨4,.data⟩],none⟩) (v:=?_) ?_ ?_
 rotate_left
 ·intro w hSw;(try dsimp only at hSw);go_simp;(try with_reducible rfl)
 try simp only [Act.put,la_,lz_,ls_]
 refine tk_ 7 (⟨some 12,.move (.tmp 1),3,_,#[],none⟩) (v:=?_) ?_ ?_
 rotate_left
 ·intro w hSw;(try dsimp only at hSw);go_simp;(try with_reducible rfl)
 try simp only [Act.put,la_,lz_,ls_]
 refine rd_ [6,8] ?_
 refine AllReadyH.cons (o:=⟨some 11,.load 25 (.tmp 10),25,_,#[⟨5,.data⟩],none⟩) rfl (fun K hK=>?_) (AllReadyH.cons (o:=⟨some 13,.buildSlice 25 1 #[(0,.tmp 12)],25,_,#[⟨7,.data⟩],none⟩) rfl (fun K hK=>?_) AllReadyH.nil)
 ·skip
  go_simp
  refine hK.out _ _ ?_ (fun hh=>?_)
  ·(first|exact b0|exact (B0.out.alloc _).cell 0|exact B9.out.cell 0|exact (B9.out.apart (p:=⟨ga,k*2+1,none⟩) (by show ga+1≠ga;omega) _).cell 0)
  clear hK K
  try simp only [Act.put,la_,lz_,ls_]
  refine rd_ [8] ?_
  refine AllReadyH.cons (o:=⟨some 13,.buildSlice 25 1 #[(0,.tmp 12)],25,_,#[⟨7,.data⟩],none⟩) rfl (fun K hK=>?_) AllReadyH.nil
  go_simp
  refine hK.out _ _ ?_ (fun hh=>?_)
  ·(first|exact b0|exact (B0.out.alloc _).cell 0|exact B9.out.cell 0|exact (B9.out.apart (p:=⟨ga,k*2+1,none⟩) (by show ga+1≠ga;omega) _).cell 0)
  clear hK K
  try simp only [Act.put,la_,lz_,ls_]
  refine rd_ [9] ?_
  refine AllReadyH.cons (o:=⟨some 14,.call { callee:=.builtin Builtin.append,args:=#[.tmp 11,.tmp 13],argTypes:=#[25,25] },25,_,#[⟨6,.data⟩,⟨8,.data⟩],none⟩) rfl (fun K hK=>?_) AllReadyH.nil
  have O9:=hd_ ((O.out.drew).alloc (.cells #[.int .i64 v] 3))
  obtain ⟨A9,k9,u9,hrun9,hown9,hgr9,hat9⟩:=app_run 25 3 25 Tryz.underlying25 _ 1 8 int_infoA rfl (by decide) (by decide) w0.heap.size A nl c (ints L) O9.out ⟨w.drew.heap.size,0,none⟩ 1 [.int .i64 v] (rd_of_blk (cs:=[.int .i64 v]) (Blk.made w.drew 3 #[.int .i64 v]) 1 1 rfl) (fun u hu=>by rw [List.mem_singleton] at hu;subst hu;rfl) (by omega) (by have:=HA.out.below.size;simp;omega)
  refine step_app_run (by rfl) (.tmp 11) (.tmp 13) 25 25 (by rfl) (.slice A nl c) (.slice (some ⟨w.heap.size,0,none⟩) 1 1) (by rfl) (by rfl) hrun9 ?_
  have HT:=hd_ (HTU.out A9 k9 u9 _ (by rw [ints_append];exact hown9) hgr9 hat9)
  have B9:=hd_ ((show Blk w.drew _ _ _ from B0.out).alloc (.cells #[.int .i64 v] 3) |>.grown hgr9 (fun e=>own_other O.out B0.out (by decide) (by rw [own_blk];exact e.symm)))
  have hall9:=((show Blk w.drew _ _ _ from ALL.out).alloc (.cells #[.int .i64 v] 3)).grown hgr9 (fun e=>own_other O.out ALL.out (by decide) (by rw [own_blk];exact e.symm))
  have k19:=hall9.cell (k*2+1)
  have f19:=hall9.free (k*2+1)
  have k19':u9.cell? ⟨ga,k*2+1,none⟩≠none:=by rw [k19,List.getElem?_toArray,(wcells_get ws k HKL.out).2];intro e;cases e
  obtain ⟨vv,hvv⟩:∃ vv,u9.cell? ⟨ga,k*2+1,none⟩=some vv:=Option.ne_none_iff_exists'.1 k19'
  clear k19 k19'
  have k19:=hvv
  clear hvv
  clear hown9 hgr9 hat9 hrun9 hall9
  refine hK.out _ _ ?_ (fun hh=>?_)
  ·(first|exact b0|exact (B0.out.alloc _).cell 0|exact B9.out.cell 0|exact (B9.out.apart (p:=⟨ga,k*2+1,none⟩) (by show ga+1≠ga;omega) _).cell 0)
  clear hK K
  try simp only [Act.put,la_,lz_,ls_]
  refine tk_ 10 (⟨some 15,.indexAddr 53 (.tmp 5) (.tmp 6),0,_,#[⟨0,.data⟩,⟨1,.data⟩,⟨0,.phase⟩,⟨1,.phase⟩,⟨2,.phase⟩,⟨3,.phase⟩,⟨4,.phase⟩,⟨5,.phase⟩,⟨6,.phase⟩,⟨7,.phase⟩,⟨8,.phase⟩,⟨9,.phase⟩],none⟩) (v:=?_) ?_ ?_
  rotate_left
  ·intro w hSw;(try dsimp only at hSw);go_simp;(try with_reducible rfl)
  try simp only [Act.put,la_,lz_,ls_]
  refine tk_ 11 (⟨some 16,.fieldAddr 87 (.tmp 15) 1,0,_,#[⟨10,.data⟩,⟨0,.phase⟩,⟨1,.phase⟩,⟨2,.phase⟩,⟨3,.phase⟩,⟨4,.phase⟩,⟨5,.phase⟩,⟨6,.phase⟩,⟨7,.phase⟩,⟨8,.phase⟩,⟨9,.phase⟩],none⟩) (v:=?_) ?_ ?_
  rotate_left
  ·intro w hSw;(try dsimp only at hSw);go_simp;(try with_reducible rfl)
  try simp only [Act.put,la_,lz_,ls_]
  refine rd_ [12] ?_
  refine AllReadyH.cons (o:=⟨none,.store 25 (.tmp 16) (.tmp 14),0,_,#[⟨11,.data⟩,⟨9,.data⟩,⟨9,.chain⟩,⟨0,.phase⟩,⟨1,.phase⟩,⟨2,.phase⟩,⟨3,.phase⟩,⟨4,.phase⟩,⟨5,.phase⟩,⟨6,.phase⟩,⟨7,.phase⟩,⟨8,.phase⟩,⟨9,.phase⟩],none⟩) rfl (fun K hK=>?_) AllReadyH.nil
  go_simp
  refine hK.out _ _ ?_ (fun hh=>?_)
  ·(first|exact b0|exact (B0.out.alloc _).cell 0|exact B9.out.cell 0|exact (B9.out.apart (p:=⟨ga,k*2+1,none⟩) (by show ga+1≠ga;omega) _).cell 0)
  clear hK K
  try simp only [Act.put,la_,lz_,ls_]
  refine wpAnyH_done (by kernel_rfl) ?_ _
  clear k18 k18b k19 f19
  go_end0
  exact ⟨rfl,_,_,_,HT.out⟩
 ·skip
  go_simp
  refine hK.out _ _ ?_ (fun hh=>?_)
  ·(first|exact b0|exact (B0.out.alloc _).cell 0|exact B9.out.cell 0|exact (B9.out.apart (p:=⟨ga,k*2+1,none⟩) (by show ga+1≠ga;omega) _).cell 0)
  clear hK K
  try simp only [Act.put,la_,lz_,ls_]
  refine rd_ [6] ?_
  refine AllReadyH.cons (o:=⟨some 11,.load 25 (.tmp 10),25,_,#[⟨5,.data⟩],none⟩) rfl (fun K hK=>?_) AllReadyH.nil
  go_simp
  refine hK.out _ _ ?_ (fun hh=>?_)
  ·(first|exact b0|exact (B0.out.alloc _).cell 0|exact B9.out.cell 0|exact (B9.out.apart (p:=⟨ga,k*2+1,none⟩) (by show ga+1≠ga;omega) _).cell 0)
  clear hK K
  try simp only [Act.put,la_,lz_,ls_]
  refine rd_ [9] ?_
  refine AllReadyH.cons (o:=⟨some 14,.call { callee:=.builtin Builtin.append,args:=#[.tmp 11,.tmp 13],argTypes:=#[25,25] },25,_,#[⟨6,.data⟩,⟨8,.data⟩],none⟩) rfl (fun K hK=>?_) AllReadyH.nil
  have O9:=hd_ ((O.out.drew).alloc (.cells #[.int .i64 v] 3))
  obtain ⟨A9,k9,u9,hrun9,hown9,hgr9,hat9⟩:=app_run 25 3 25 Tryz.underlying25 _ 1 8 int_infoA rfl (by decide) (by decide) w0.heap.size A nl c (ints L) O9.out ⟨w.drew.heap.size,0,none⟩ 1 [.int .i64 v] (rd_of_blk (cs:=[.int .i64 v]) (Blk.made w.drew 3 #[.int .i64 v]) 1 1 rfl) (fun u hu=>by rw [List.mem_singleton] at hu;subst hu;rfl) (by omega) (by have:=HA.out.below.size;simp;omega)
  refine step_app_run (by rfl) (.tmp 11) (.tmp 13) 25 25 (by rfl) (.slice A nl c) (.slice (some ⟨w.heap.size,0,none⟩) 1 1) (by rfl) (by rfl) hrun9 ?_
  have HT:=hd_ (HTU.out A9 k9 u9 _ (by rw [ints_append];exact hown9) hgr9 hat9)
  have B9:=hd_ ((show Blk w.drew _ _ _ from B0.out).alloc (.cells #[.int .i64 v] 3) |>.grown hgr9 (fun e=>own_other O.out B0.out (by decide) (by rw [own_blk];exact e.symm)))
  have hall9:=((show Blk w.drew _ _ _ from ALL.out).alloc (.cells #[.int .i64 v] 3)).grown hgr9 (fun e=>own_other O.out ALL.out (by decide) (by rw [own_blk];exact e.symm))
  have k19:=hall9.cell (k*2+1)
  have f19:=hall9.free (k*2+1)
  have k19':u9.cell? ⟨ga,k*2+1,none⟩≠none:=by rw [k19,List.getElem?_toArray,(wcells_get ws k HKL.out).2];intro e;cases e
  obtain ⟨vv,hvv⟩:∃ vv,u9.cell? ⟨ga,k*2+1,none⟩=some vv:=Option.ne_none_iff_exists'.1 k19'
  clear k19 k19'
  have k19:=hvv
  clear hvv
  clear hown9 hgr9 hat9 hrun9 hall9
  refine hK.out _ _ ?_ (fun hh=>?_)
  ·(first|exact b0|exact (B0.out.alloc _).cell 0|exact B9.out.cell 0|exact (B9.out.apart (p:=⟨ga,k*2+1,none⟩) (by show ga+1≠ga;omega) _).cell 0)
  clear hK K
  try simp only [Act.put,la_,lz_,ls_]
  refine tk_ 10 (⟨some 15,.indexAddr 53 (.tmp 5) (.tmp 6),0,_,#[⟨0,.data⟩,⟨1,.data⟩,⟨0,.phase⟩,⟨1,.phase⟩,⟨2,.phase⟩,⟨3,.phase⟩,⟨4,.phase⟩,⟨5,.phase⟩,⟨6,.phase⟩,⟨7,.phase⟩,⟨8,.phase⟩,⟨9,.phase⟩],none⟩) (v:=?_) ?_ ?_
  rotate_left
  ·intro w hSw;(try dsimp only at hSw);go_simp;(try with_reducible rfl)
  try simp only [Act.put,la_,lz_,ls_]
  refine tk_ 11 (⟨some 16,.fieldAddr 87 (.tmp 15) 1,0,_,#[⟨10,.data⟩,⟨0,.phase⟩,⟨1,.phase⟩,⟨2,.phase⟩,⟨3,.phase⟩,⟨4,.phase⟩,⟨5,.phase⟩,⟨6,.phase⟩,⟨7,.phase⟩,⟨8,.phase⟩,⟨9,.phase⟩],none⟩) (v:=?_) ?_ ?_
  rotate_left
  ·intro w hSw;(try dsimp only at hSw);go_simp;(try with_reducible rfl)
  try simp only [Act.put,la_,lz_,ls_]
  refine rd_ [12] ?_
  refine AllReadyH.cons (o:=⟨none,.store 25 (.tmp 16) (.tmp 14),0,_,#[⟨11,.data⟩,⟨9,.data⟩,⟨9,.chain⟩,⟨0,.phase⟩,⟨1,.phase⟩,⟨2,.phase⟩,⟨3,.phase⟩,⟨4,.phase⟩,⟨5,.phase⟩,⟨6,.phase⟩,⟨7,.phase⟩,⟨8,.phase⟩,⟨9,.phase⟩],none⟩) rfl (fun K hK=>?_) AllReadyH.nil
  go_simp
  refine hK.out _ _ ?_ (fun hh=>?_)
  ·(first|exact b0|exact (B0.out.alloc _).cell 0|exact B9.out.cell 0|exact (B9.out.apart (p:=⟨ga,k*2+1,none⟩) (by show ga+1≠ga;omega) _).cell 0)
  clear hK K
  try simp only [Act.put,la_,lz_,ls_]
  refine wpAnyH_done (by kernel_rfl) ?_ _
  clear k18 k18b k19 f19
  go_end0
  exact ⟨rfl,_,_,_,HT.out⟩
end Go.Proofs.YtmkiphadkmodnaaGreat
