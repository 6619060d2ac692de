/- BfM, 9 -/
import Derived.ArgAppend
import Derived.BigQuiet
import Derived.Deep.QuietTactic
import Derived.Deep.RegionHeld3
import Derived.Deep.RegionWith
import Derived.IntWalk
import Derived.Laws.BitsAll
import Derived.Laws.BytesArg
import Derived.Laws.Rows
import Derived.LoopIn
import Derived.LoopNIn
import Derived.Maps.AppendAt
import Derived.OwnWalkIn
import Derived.RegionIn
import Derived.WalkKit
import Derived.Test.YtmkiphadkmodnaaGreatZBfM7
import Derived.Test.YtmkiphadkmodnaaGreatZBfM8
import Derived.Test.YtmkiphadkmodnaaGreatZBfM0
set_option linter.all false
set_option maxRecDepth 100000
set_option maxHeartbeats 8000000
namespace Go.Proofs.YtmkiphadkmodnaaGreat
open Go.RowKit
theorem rd_new (w:World) (t:TypeId) (cs:List Value):Rd (w.alloc (.cells cs.toArray t)) 1 (some ⟨w.heap.size,0,none⟩) cs.length cs.length cs:=by
 refine ⟨by simp,Nat.le_refl _,fun h=>(by cases h),fun j u hj=>⟨_,rfl,by simp,?_⟩⟩
 have h0:(Addr.add ⟨w.heap.size,0,none⟩ j)=⟨w.heap.size,j,none⟩:=by simp [Addr.add];exact fun h=>h.symm
 rw [h0]
 have:=World.cell?_alloc_at (w:=w) cs.toArray t w.heap.size j rfl
 rw [this]
 simpa using hj
theorem new_cells (w:World) (t:TypeId) (cs:List Value):∀ (j:Nat) (u:Value),cs[j]? = some u->(w.alloc (.cells cs.toArray t)).cell? ((⟨w.heap.size,0,none⟩:Addr).add j)=some u:=fun j u hj=>by
 obtain ⟨a',e,-,hc⟩:=(rd_new w t cs).read j u hj
 obtain rfl:=Option.some.inj e
 exact hc
theorem rd_bool1 (w:World) (t:TypeId) (b:Bool):Rd (w.alloc (.cells #[.bool b] t)) 1 (some ⟨w.heap.size,0,none⟩) 1 1 (bools [b]):=rd_new w t [.bool b]
theorem ok_tile {C:Cfg} (h:C.ok) {k:Nat} (hk:k<C.tiles.length):0<=(C.tiles[k]!).1∧(C.tiles[k]!).1<=65535:=by
 have ho:=h.2.2.2.2
 rw [List.any_eq_false] at ho
 have:=ho C.tiles[k] (List.getElem_mem hk)
 rw [getElem!_pos C.tiles k hk]
 unfold oddB at this
 simp only [Bool.or_eq_true,decide_eq_true_eq,not_or] at this
 omega
def sameP (C D:Cfg):Prop:=(C.W=D.W∧C.H=D.H∧C.T=D.T)∧C.tiles=D.tiles∧C.on=D.on∧C.ins=D.ins∧C.outs=D.outs
instance (C D:Cfg):Decidable (sameP C D):=by unfold sameP;infer_instance
def bys (l:List Nat):List Value:=l.map fun (n:Nat)=>Value.int .u8 (n:Int)
theorem bys_length (l:List Nat):(bys l).length=l.length:=by simp [bys]
theorem bys_append (l m:List Nat):bys (l++m)=bys l++bys m:=by simp [bys]
theorem bys_getD (l:List Nat) {k:Nat} (h:k<l.length):(bys l).getD k undef=.int .u8 (l.getD k 0:Int):=by
 simp [bys,List.getD_eq_getElem?_getD,List.getElem?_eq_getElem h]
theorem Rd.byte {w:World} {A:Option Addr} {n c:Nat} {l:List Nat} (h:Rd w 1 A n c (bys l)) {k:Nat} (hk:k<n):∃ a,A=some a∧a.block<w.heap.size∧w.cell? (a.add k)=some (.int .u8 (l.getD k 0:Int)):=by
 obtain ⟨a,e,hb,hc⟩:=h.at1 hk
 exact ⟨a,e,hb,by rw [hc,bys_getD l (by have:=h.len;rw [bys_length] at this;omega)]⟩
theorem byte_info:(Tryz.prog.info? 5).map (fun i=>(i.zero,i.size,i.bytes))=some (some (.int .u8 0),1,1):=by kernel_rfl
theorem rd_bys1 (w:World) (t:TypeId) (b:Nat) (v:Int) (h:v=(b:Int)):Rd (w.alloc (.cells #[.int .u8 v] t)) 1 (some ⟨w.heap.size,0,none⟩) 1 1 (bys [b]):=by
 subst h
 exact rd_new w t [.int .u8 (b:Int)]
section
variable {ops : Array Oper} {rest : List Oper} {o : Oper} {a : Act} {Q : Exit → Act → World → Prop}
theorem wpList_app_bys (hgd:o.guard=none) (s x:Operand) (ho:o.op=.call { callee:=.builtin .append,args:=#[s,x],argTypes:=#[44,44] })
  {W:World} (base:Nat) (A:Option Addr) (k c:Nat) (L:List Nat) (hs:a.eval s=.slice A k c) (O:W.ownsRow base 5 1 (.slice A k c) k (bys L)) (A2:Option Addr) (n d:Nat) (M:List Nat) (hx:a.eval x=.slice A2 n d) (hr:Rd W 1 A2 n d (bys M))
  (hk:k+n<=100000000) (hb:base<=W.heap.size)
  (h:∀ A' c' w',w'.ownsRow base 5 1 (.slice A' (k+n) c') (k+n) (bys (L++M))->W.grownBy w' (Value.slice A k c).ownBlock->wpList Tryz.prog ops Q rest (a.put o.dst (.slice A' (k+n) c')) w') :
  wpList Tryz.prog ops Q (o::rest) a W:=by
 obtain ⟨i0,hi0,hz0,hz1,hz2⟩:=info_parts byte_info
 cases A2 with
 | none =>
  have hd:d=0:=hr.nil rfl
  have hn:n=0:=by have:=hr.cap;omega
  subst hd hn
  have hM:M=[]:=List.eq_nil_of_length_eq_zero (by have:=hr.len;rw [bys_length] at this;omega)
  subst hM
  refine wpList_append_own_none hgd s x 44 ho base 5 i0 1 Tryz.underlying44 hi0 (.slice A k c) k (bys L) hs O hx ?_
  exact h A c W (by simpa using O) (World.grownBy.refl W _)
 | some ad =>
  refine wpList_append_own _ hgd s x 44 ho base 5 i0 (.int .u8 0) 1 1 Tryz.underlying44 hi0 hz0 hz1 hz2 rfl (by decide) (.slice A k c) k (bys L) hs O ad n d (bys M) hx (by have:=hr.len;exact this) ?_ ?_ ?_ ?_ ?_ ?_
  ·intro j u hj
   obtain ⟨a',e,-,hc⟩:=hr.read j u hj
   obtain rfl:=Option.some.inj e
   exact hc
  ·intro u hu
   obtain ⟨z,-,rfl⟩:=List.mem_map.1 hu
   rfl
  ·unfold maxLen;omega
  ·omega
  ·exact hb
  ·intro v' w' hown hg _
   obtain ⟨A',c',rfl⟩:=own_slice hown
   refine h A' c' w' ?_ hg
   rw [bys_append]
   exact hown
end
theorem sum_step (s b:Nat) (hs:s<4294967296) (hb:b<256):bits .xor .u32 (s:Int) (b:Int)*16777619%4294967296=(fnv s b:Int):=by
 rw [u32_xor_nat s b hs (by omega)]
 unfold fnv
 omega
theorem sumTo_next {l:List Nat} {k:Nat} (h:k<l.length):sumB (l.take (k+1))=fnv (sumB (l.take k)) (l.getD k 0):=by
 rw [List.take_succ_eq_append_getElem h,sumB_snoc,List.getD_eq_getElem?_getD,List.getElem?_eq_getElem h];rfl
theorem bsum_any (w:World) (A:Option Addr) (n c:Nat) (l:List Nat) (hr:Rd w 1 A n c (bys l)) (hl:∀ x ∈ l,x<256) (hn:n<=100000000) :
  Calls Tryz.prog 13 #[.slice A n c] w fun e w'=>e=.returned (.int .u32 (sumB l:Int))∧w'=w:=by
 have hll:l.length=n:=by have:=hr.len;rw [bys_length] at this;omega
 have HR:=hd_ hr
 have HL:=hd_ hl
 have HLL:=hd_ hll
 clear hr hl hll
 go_enter Tryz.func13,Tryz.ntmps13
 go_wp2_with fail
 go_loop [3,8] (fun s i=>∃ k:Nat,k<=n∧i=.int .i64 (k:Int)∧s=.int .u32 (sumB (l.take k):Int)) (fun _ i=>n-(intOf i).toNat)
 case atStart=>exact ⟨0,by omega,rfl,rfl⟩
 case round =>
  obtain ⟨k,hk,rfl,rfl⟩:=hrel
  by_cases hlt:k<n
  ·obtain ⟨a,rfl,-,c0⟩:=HR.out.byte hlt
   have hb:=getD_lt HL.out k
   have hs:=sumB_lt (l.take k)
   have hx:=sumTo_next (l:=l) (k:=k) (by rw [HLL.out];exact hlt)
   have HX:=hd_ hx
   clear hx
   generalize l.getD k 0=b at c0 hb HX
   generalize sumB (l.take k)=s at hs HX
   go_wp2_with fail
   go_round
   case rel=>exact ⟨k+1,by omega,by go_num,by rw [HX.out,<- sum_step s b hs hb]⟩
   case measure=>simp [intOf];omega
  ·obtain rfl:k=n:=by omega
   have hf:l.take k=l:=List.take_of_length_le (by rw [HLL.out];exact Nat.le_refl _)
   rw [hf]
   clear hf
   go_wp2_with fail
   go_ret
   exact ⟨rfl,rfl⟩
def bigTo (n m j:Nat):List Nat:=(List.range j).map fun i=>n/2 ^ (8*(m-1-i))%256
theorem bigTo_next (n m j:Nat):bigTo n m (j+1)=bigTo n m j++[n/2 ^ (8*(m-1-j))%256]:=by simp [bigTo,List.range_succ]
theorem bigTo_two (n:Nat):bigTo n 2 2=two n:=by simp [bigTo,two,List.range_succ]
theorem bigTo_four (n:Nat):bigTo n 4 4=four n:=by simp [bigTo,four,List.range_succ]
theorem bput_any (w:World) (base:Nat) (A:Option Addr) (k c:Nat) (L:List Nat) (ho:w.ownsRow base 5 1 (.slice A k c) k (bys L)) (hb:base<=w.heap.size) (n m:Nat) (hn:n<4294967296) (hm:m<=4) (hk:k<=10000000) :
  Calls Tryz.prog 32 #[.slice A k c,.int .u32 (n:Int),.int .i64 (m:Int)] w fun e w'=>∃ A' c',e=.returned (.slice A' (k+m) c')∧Below base w w'∧w'.ownsRow base 5 1 (.slice A' (k+m) c') (k+m) (bys (L++bigTo n m m)):=by
 have HO:=hd_ ho
 clear ho
 obtain ⟨R,hR⟩:∃ R:Ending->World->Prop,(fun e w'=>∃ A' c',e=.returned (.slice A' (k+m) c')∧Below base w w'∧w'.ownsRow base 5 1 (.slice A' (k+m) c') (k+m) (bys (L++bigTo n m m)))=R:=⟨_,rfl⟩
 rw [hR]
 have HR:=hd_ hR
 clear hR
 go_enter Tryz.func32,Tryz.ntmps32
 go_wp2_with fail
 go_loopw [0,7] (fun v i wx=>∃ (j:Nat) (A':Option Addr) (c':Nat),j<=m∧i=.int .i64 ((m:Int)-1-(j:Int))∧v=.slice A' (k+j) c'∧Below base w wx∧wx.ownsRow base 5 1 (.slice A' (k+j) c') (k+j) (bys (L++bigTo n m j))) (fun _ i _=>(intOf i+1).toNat)
 case atStart=>exact ⟨0,A,c,by omega,by simp,rfl,br_,by simpa [bigTo] using HO.out⟩
 case round =>
  obtain ⟨j,A1,c1,hj,rfl,rfl,hbb,hown⟩:=hrel
  have HB:=hd_ hbb
  have H1:=hd_ hown
  have hsz:base<=wr.heap.size:=by have:=hbb.size;omega
  clear hbb hown
  by_cases hlt:j<m
  ·obtain ⟨q,hq⟩:∃ q:Nat,m-1-j=q:=⟨_,rfl⟩
   have hqi:(m:Int)-1-(j:Int)=(q:Int):=by omega
   rw [hqi]
   have hnx:=bigTo_next n m j
   rw [hq] at hnx
   have HNX:=hd_ hnx
   have hq4:q<=3:=by omega
   clear hnx
   have hv:(n:Int)/2 ^ (8*q)%256=((n/2 ^ (8*q)%256:Nat):Int):=by
    rw [Int.natCast_emod,Int.natCast_ediv,Int.natCast_pow];rfl
   have HV:=hd_ hv
   clear hv
   go_wp2_with (at_builtin;refine wpList_app_bys rfl (.tmp 14) (.tmp 20) rfl base A1 (k+j) c1 (L++bigTo n m j) rfl (H1.out.alloc _) (some ⟨wr.heap.size,0,none⟩) 1 1 [n/2 ^ (8*q)%256] rfl (rd_bys1 wr 5 _ _ HV.out) (by omega) (by simp;omega) ?_)
   intro A2 c2 w2 hown2 hg2
   have B2:=hd_ ((HB.out.alloc hsz (.cells #[.int .u8 ((n:Int)/2 ^ (8*q)%256)] 5)).grown hg2 (by simp;omega) (fun j hj=>own_base H1.out hj))
   have O2:=hd_ hown2
   clear hown2 hg2
   go_wp2_with fail
   go_roundw
   case rel=>exact ⟨j+1,A2,c2,by omega,by go_num,rfl,B2.out,by rw [HNX.out,<- Nat.add_assoc];exact O2.out⟩
   case measure=>simp [intOf]
  ·obtain rfl:j=m:=by omega
   have hneg:decide ((0:Int)<=(j:Int)-1-(j:Int))=false:=decide_eq_false (by omega)
   go_wp2_with fail
   rw [<- HR.out]
   exact ⟨A1,c1,rfl,HB.out,H1.out⟩
theorem btwo_any (w:World) (base:Nat) (A:Option Addr) (k c:Nat) (L:List Nat) (ho:w.ownsRow base 5 1 (.slice A k c) k (bys L)) (hb:base<=w.heap.size) (n:Int) (hn:0<=n∧n<=65535) (hk:k<=10000000) :
  Calls Tryz.prog 33 #[.slice A k c,.int .i64 n] w fun e w'=>∃ A' c',e=.returned (.slice A' (k+2) c')∧Below base w w'∧w'.ownsRow base 5 1 (.slice A' (k+2) c') (k+2) (bys (L++two n.toNat)):=by
 obtain ⟨m,rfl⟩:∃ m:Nat,n=(m:Int):=⟨n.toNat,by omega⟩
 have hp:=bput_any w base A k c L ho hb m 2 (by omega) (by omega) hk
 rw [bigTo_two] at hp
 have HP:=hd_ hp
 clear hp ho
 go_enter Tryz.func33,Tryz.ntmps33
 go_wp2_with fail
 refine HP.out.mono ?_
 rintro e w1 ⟨A1,c1,rfl,hb1,ho1⟩
 go_wp2_with fail
 go_ret
 exact ⟨A1,c1,rfl,hb1,ho1⟩
def numB (l:List Nat):Nat:=l.foldl (fun n x=>n*256+x) 0
theorem numB_snoc (l:List Nat) (x:Nat):numB (l++[x])=numB l*256+x:=by simp [numB]
theorem numB_lt:∀ (l:List Nat) (k:Nat),(∀ x ∈ l,x<256)->k<=l.length->numB (l.take k)<256 ^ k
 | l,0,_,_=>by simp [numB]
 | l,k+1,h,hk=>by
  have ih:=numB_lt l k h (by omega)
  have hx:=h l[k] (List.getElem_mem (by omega))
  rw [List.take_succ_eq_append_getElem (by omega),numB_snoc,Nat.pow_succ]
  omega
theorem or_shift (s b:Nat) (hs:s<16777216) (hb:b<256):bits .or .i64 ((s:Int)*256) (b:Int)=((s*256+b:Nat):Int):=by
 have e:bits .or .i64 ((s:Int)*256) (b:Int)=IntKind.i64.wrap ((BitVec.ofInt 64 ((s:Int)*256) ||| BitVec.ofInt 64 (b:Int)).toNat:Int):=rfl
 have h1:(BitVec.ofInt 64 ((s:Int)*256)).toNat=s*256:=by
  rw [show ((s:Int)*256)=((s*256:Nat):Int) by omega,BitVec.ofInt_natCast,BitVec.toNat_ofNat]
  omega
 have h2:(BitVec.ofInt 64 (b:Int)).toNat=b:=by
  rw [BitVec.ofInt_natCast,BitVec.toNat_ofNat]
  omega
 rw [e,BitVec.toNat_or,h1,h2,nat_join8 _ _ (by omega) hb]
 exact IntWalk.i64_in _ (by omega)
theorem bnumber_any (w:World) (A:Option Addr) (n c:Nat) (l:List Nat) (hr:Rd w 1 A n c (bys l)) (hl:∀ x ∈ l,x<256) (hn:n<=4) :
  Calls Tryz.prog 37 #[.slice A n c] w fun e w'=>e=.returned (.int .i64 (numB l:Int))∧w'=w:=by
 have hll:l.length=n:=by have:=hr.len;rw [bys_length] at this;omega
 have HR:=hd_ hr
 have HL:=hd_ hl
 have HLL:=hd_ hll
 clear hr hl hll
 go_enter Tryz.func37,Tryz.ntmps37
 go_wp2_with fail
 go_loop [3,8] (fun s i=>∃ k:Nat,k<=n∧i=.int .i64 (k:Int)∧s=.int .i64 (numB (l.take k):Int)) (fun _ i=>n-(intOf i).toNat)
 case atStart=>exact ⟨0,by omega,rfl,rfl⟩
 case round =>
  obtain ⟨k,hk,rfl,rfl⟩:=hrel
  by_cases hlt:k<n
  ·obtain ⟨a,rfl,-,c0⟩:=HR.out.byte hlt
   have hkl:k<l.length:=by rw [HLL.out];exact hlt
   have hb:=getD_lt HL.out k
   have hs:numB (l.take k)<16777216:=Nat.lt_of_lt_of_le (numB_lt l k HL.out (by omega)) (by
    have:k<=3:=by omega
    exact Nat.pow_le_pow_right (n:=256) (by omega) this)
   have hx:numB (l.take (k+1))=numB (l.take k)*256+l.getD k 0:=by
    rw [List.take_succ_eq_append_getElem hkl,numB_snoc,List.getD_eq_getElem?_getD,List.getElem?_eq_getElem hkl];rfl
   have HX:=hd_ hx
   clear hx
   generalize l.getD k 0=b at c0 hb HX
   generalize numB (l.take k)=s at hs HX
   go_wp2_with fail
   go_round
   case rel=>exact ⟨k+1,by omega,by go_num,by rw [HX.out,<- or_shift s b hs hb]⟩
   case measure=>simp [intOf];omega
  ·obtain rfl:k=n:=by omega
   have hf:l.take k=l:=List.take_of_length_le (by rw [HLL.out];exact Nat.le_refl _)
   rw [hf]
   clear hf
   go_wp2_with fail
   go_ret
   exact ⟨rfl,rfl⟩
end Go.Proofs.YtmkiphadkmodnaaGreat
