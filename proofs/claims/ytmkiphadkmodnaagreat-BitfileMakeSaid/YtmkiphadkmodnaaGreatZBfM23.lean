/- BfM, 23 -/
import Derived.Deep.RegionHeld3
import Derived.Deep.QuietTactic
import Derived.BigQuiet
import Derived.IntWalk
import Derived.Test.YtmkiphadkmodnaaGreatZBfM22
import Derived.Test.YtmkiphadkmodnaaGreatZBfM0
set_option linter.all false
set_option maxRecDepth 100000
set_option maxHeartbeats 8000000
namespace Go.Proofs.YtmkiphadkmodnaaGreat
open Go.RowKit Go.Shelf
attribute [local go_sem] Oper.semAt_some
abbrev oGt0:Oper:=⟨some 175,.fieldAddr 37 (.tmp 4) 3,0,"bitfile.go:185",#[],none⟩
abbrev oGt1:Oper:=⟨some 176,.load 25 (.tmp 175),25,"bitfile.go:185",#[⟨0,.data⟩],none⟩
abbrev oGt2:Oper:=⟨some 177,.move (.tmp 12),78,"bitfile.go:185",#[],none⟩
abbrev oGt3:Oper:=⟨some 178,.call { callee:=.value (.tmp 177),args:=#[.const (.int .i64 2)],argTypes:=#[3] },44,"bitfile.go:185",#[⟨2,.data⟩],none⟩
abbrev oGt4:Oper:=⟨some 179,.call { callee:=.value (.func 37),args:=#[.tmp 178],argTypes:=#[44] },3,"bitfile.go:185",#[⟨3,.data⟩,⟨3,.chain⟩],none⟩
abbrev oGt5:Oper:=⟨some 180,.buildSlice 25 1 #[(0,.tmp 179)],25,"bitfile.go:185",#[⟨4,.data⟩],none⟩
abbrev oGt6:Oper:=⟨some 181,.call { callee:=.builtin Builtin.append,args:=#[.tmp 176,.tmp 180],argTypes:=#[25,25] },25,"bitfile.go:185",#[⟨1,.data⟩,⟨5,.data⟩,⟨4,.chain⟩],none⟩
abbrev oGt7:Oper:=⟨some 182,.fieldAddr 37 (.tmp 4) 3,0,"bitfile.go:185",#[⟨0,.phase⟩,⟨1,.phase⟩,⟨2,.phase⟩,⟨3,.phase⟩,⟨4,.phase⟩,⟨5,.phase⟩,⟨6,.phase⟩],none⟩
abbrev oGt8:Oper:=⟨none,.store 25 (.tmp 182) (.tmp 181),0,"bitfile.go:185",#[⟨7,.data⟩,⟨6,.data⟩,⟨6,.chain⟩,⟨0,.phase⟩,⟨1,.phase⟩,⟨2,.phase⟩,⟨3,.phase⟩,⟨4,.phase⟩,⟨5,.phase⟩,⟨6,.phase⟩],none⟩
abbrev oGt9:Oper:=⟨some 187,.fieldAddr 37 (.tmp 4) 4,0,"bitfile.go:188",#[],none⟩
abbrev oGt10:Oper:=⟨some 188,.load 25 (.tmp 187),25,"bitfile.go:188",#[⟨0,.data⟩],none⟩
abbrev oGt11:Oper:=⟨some 189,.move (.tmp 12),78,"bitfile.go:188",#[],none⟩
abbrev oGt12:Oper:=⟨some 190,.call { callee:=.value (.tmp 189),args:=#[.const (.int .i64 2)],argTypes:=#[3] },44,"bitfile.go:188",#[⟨2,.data⟩],none⟩
abbrev oGt13:Oper:=⟨some 191,.call { callee:=.value (.func 37),args:=#[.tmp 190],argTypes:=#[44] },3,"bitfile.go:188",#[⟨3,.data⟩,⟨3,.chain⟩],none⟩
abbrev oGt14:Oper:=⟨some 192,.buildSlice 25 1 #[(0,.tmp 191)],25,"bitfile.go:188",#[⟨4,.data⟩],none⟩
abbrev oGt15:Oper:=⟨some 193,.call { callee:=.builtin Builtin.append,args:=#[.tmp 188,.tmp 192],argTypes:=#[25,25] },25,"bitfile.go:188",#[⟨1,.data⟩,⟨5,.data⟩,⟨4,.chain⟩],none⟩
abbrev oGt16:Oper:=⟨some 194,.fieldAddr 37 (.tmp 4) 4,0,"bitfile.go:188",#[⟨0,.phase⟩,⟨1,.phase⟩,⟨2,.phase⟩,⟨3,.phase⟩,⟨4,.phase⟩,⟨5,.phase⟩,⟨6,.phase⟩],none⟩
abbrev oGt17:Oper:=⟨none,.store 25 (.tmp 194) (.tmp 193),0,"bitfile.go:188",#[⟨7,.data⟩,⟨6,.data⟩,⟨6,.chain⟩,⟨0,.phase⟩,⟨1,.phase⟩,⟨2,.phase⟩,⟨3,.phase⟩,⟨4,.phase⟩,⟨5,.phase⟩,⟨6,.phase⟩],none⟩
abbrev oGt18:Oper:=⟨some 106,.fieldAddr 37 (.tmp 4) 1,0,"bitfile.go:171",#[],none⟩
abbrev oGt19:Oper:=⟨some 107,.load 34 (.tmp 106),34,"bitfile.go:171",#[⟨0,.data⟩],none⟩
abbrev oGt20:Oper:=⟨some 108,.move (.tmp 14),44,"bitfile.go:171",#[],none⟩
abbrev oGt21:Oper:=⟨some 109,.slice 44 (.tmp 108) none (some (.const (.int .i64 2))) none,44,"bitfile.go:171",#[⟨2,.data⟩],none⟩
abbrev oGt22:Oper:=⟨some 110,.call { callee:=.value (.func 37),args:=#[.tmp 109],argTypes:=#[44] },3,"bitfile.go:171",#[⟨3,.data⟩],none⟩
abbrev oGt23:Oper:=⟨some 111,.move (.tmp 14),44,"bitfile.go:171",#[],none⟩
abbrev oGt24:Oper:=⟨some 112,.indexAddr 44 (.tmp 111) (.const (.int .i64 2)),0,"bitfile.go:171",#[⟨5,.data⟩],none⟩
abbrev oGt25:Oper:=⟨some 113,.load 5 (.tmp 112),5,"bitfile.go:171",#[⟨6,.data⟩],none⟩
abbrev oGt26:Oper:=⟨some 114,.binOp BinOp.and 5 (.tmp 113) (.const (.int .u8 1)) 5,5,"bitfile.go:171",#[⟨7,.data⟩],none⟩
abbrev oGt27:Oper:=⟨some 115,.binOp BinOp.neq 5 (.tmp 114) (.const (.int .u8 0)) 5,4,"bitfile.go:171",#[⟨8,.data⟩],none⟩
abbrev oGt28:Oper:=⟨some 116,.move (.tmp 14),44,"bitfile.go:171",#[],none⟩
abbrev oGt29:Oper:=⟨some 117,.indexAddr 44 (.tmp 116) (.const (.int .i64 2)),0,"bitfile.go:171",#[⟨10,.data⟩],none⟩
abbrev oGt30:Oper:=⟨some 118,.load 5 (.tmp 117),5,"bitfile.go:171",#[⟨11,.data⟩],none⟩
abbrev oGt31:Oper:=⟨some 119,.binOp BinOp.and 5 (.tmp 118) (.const (.int .u8 2)) 5,5,"bitfile.go:171",#[⟨12,.data⟩],none⟩
abbrev oGt32:Oper:=⟨some 120,.binOp BinOp.neq 5 (.tmp 119) (.const (.int .u8 0)) 5,4,"bitfile.go:171",#[⟨13,.data⟩],none⟩
abbrev oGt33:Oper:=⟨some 121,.build 65 #[(0,.tmp 110),(1,.tmp 115),(2,.tmp 120)],65,"bitfile.go:171",#[⟨4,.data⟩,⟨9,.data⟩,⟨14,.data⟩],none⟩
abbrev oGt34:Oper:=⟨some 122,.buildSlice 34 1 #[(0,.tmp 121)],34,"bitfile.go:171",#[⟨15,.data⟩],none⟩
abbrev oGt35:Oper:=⟨some 123,.call { callee:=.builtin Builtin.append,args:=#[.tmp 107,.tmp 122],argTypes:=#[34,34] },34,"bitfile.go:171",#[⟨1,.data⟩,⟨16,.data⟩,⟨4,.chain⟩],none⟩
abbrev oGt36:Oper:=⟨some 124,.fieldAddr 37 (.tmp 4) 1,0,"bitfile.go:171",#[⟨0,.phase⟩,⟨1,.phase⟩,⟨2,.phase⟩,⟨3,.phase⟩,⟨4,.phase⟩,⟨5,.phase⟩,⟨6,.phase⟩,⟨7,.phase⟩,⟨8,.phase⟩,⟨9,.phase⟩,⟨10,.phase⟩,⟨11,.phase⟩,⟨12,.phase⟩,⟨13,.phase⟩,⟨14,.phase⟩,⟨15,.phase⟩,⟨16,.phase⟩,⟨17,.phase⟩],none⟩
abbrev oGt37:Oper:=⟨none,.store 34 (.tmp 124) (.tmp 123),0,"bitfile.go:171",#[⟨18,.data⟩,⟨17,.data⟩,⟨17,.chain⟩,⟨0,.phase⟩,⟨1,.phase⟩,⟨2,.phase⟩,⟨3,.phase⟩,⟨4,.phase⟩,⟨5,.phase⟩,⟨6,.phase⟩,⟨7,.phase⟩,⟨8,.phase⟩,⟨9,.phase⟩,⟨10,.phase⟩,⟨11,.phase⟩,⟨12,.phase⟩,⟨13,.phase⟩,⟨14,.phase⟩,⟨15,.phase⟩,⟨16,.phase⟩,⟨17,.phase⟩],none⟩
theorem bget_long (a:Addr) (n c:Nat) (l:List Nat) (w:World) (hr:Rd w 1 (some a) n c (bys l)) (hl:∀ x ∈ l,x<256) (hn:n<=5000) (hc:c<=maxLen) (h15:15<=n) (hm:l.take 4=magicB)
  (hA:okA (gW l) (gH l) (gT l)) (hsz:n=sizeB l (gN l)+4) (hsum:l.drop (sizeB l (gN l))=four (sumB (l.take (sizeB l (gN l))))):BGET (some a) n c w (GetOut l w):=by
 unfold BGET
 obtain ⟨R,hR⟩:∃ R,GetOut l w=R:=⟨_,rfl⟩
 rw [hR]
 have HR:=hd_ hR
 have hln:l.length=n:=by have:=hr.len;rw [bys_length] at this;omega
 have hcn:=hr.cap
 have HRD:=hd_ hr
 have HL:=hd_ hl
 have HLN:=hd_ hln
 have hcv:=conv_bytes (hr.later (bn_ w (.cells #[.int .i64 0,.int .i64 0,.int .i64 0,.slice none 0 0,.slice none 0 0,.slice none 0 0,.slice none 0 0] 37)))
 have HP:=hd_ (fun W:World=>prefix_any l hl W (by omega) (by omega) true (decide_eq_true hm))
 have hd15:decide ((n:Int)<15)=false:=decide_eq_false (by omega)
 generalize strB l=sB at hcv HP
 have HM:=hd_ hm
 have HS:=hd_ hsum
 have HZ:=hd_ hsz
 have HA:=hd_ hA
 unfold maxLen at hc
 clear hR hr hl hln hm hsum hsz hA
 go_enter Tryz.func12,Tryz.ntmps12
 go_wp2_with fail
 refine (HP.out _).mono ?_
 rintro e w1 ⟨rfl,rfl⟩
 clear hcv HP
 have r0:=Blk.made w 37 #[.int .i64 0,.int .i64 0,.int .i64 0,.slice none 0 0,.slice none 0 0,.slice none 0 0,.slice none 0 0]
 have q0:=bn_ w (.cells #[.int .i64 0,.int .i64 0,.int .i64 0,.slice none 0 0,.slice none 0 0,.slice none 0 0,.slice none 0 0] 37)
 have s0:(w.alloc (.cells #[.int .i64 0,.int .i64 0,.int .i64 0,.slice none 0 0,.slice none 0 0,.slice none 0 0,.slice none 0 0] 37)).heap.size=w.heap.size+1:=by simp
 go_wp2_with fail
 generalize w.alloc (.cells #[.int .i64 0,.int .i64 0,.int .i64 0,.slice none 0 0,.slice none 0 0,.slice none 0 0,.slice none 0 0] 37)=W0 at r0 q0 s0 ⊢
 have d4:=rd_byte (HRD.out.later q0) (k:=4) (by omega)
 have d5:=rd_byte (HRD.out.later q0) (k:=5) (by omega)
 have d6:=rd_byte (HRD.out.later q0) (k:=6) (by omega)
 rw [add_lit a (by omega)] at d4 d5 d6
 have i4:(4:Int)<(n:Int):=by omega
 have i5:(5:Int)<(n:Int):=by omega
 have i6:(6:Int)<(n:Int):=by omega
 have n4:=World.new_ne W0 _ d4
 have n5:=World.new_ne W0 _ d5
 have n6:=World.new_ne W0 _ d6
 obtain ⟨W,hW⟩:∃ W,gW l=W:=⟨_,rfl⟩
 obtain ⟨H,hH⟩:∃ H,gH l=H:=⟨_,rfl⟩
 obtain ⟨T,hT⟩:∃ T,gT l=T:=⟨_,rfl⟩
 have hA':=HA.out
 rw [show ((l.getD 4 0:Nat):Int)=W from hW] at d4
 rw [show ((l.getD 5 0:Nat):Int)=H from hH] at d5
 rw [show ((l.getD 6 0:Nat):Int)=T from hT] at d6
 rw [hW,hH,hT] at hA'
 have HW:=hd_ hW
 have HH:=hd_ hH
 have HT:=hd_ hT
 have HOK:=hd_ hA'
 clear hW hH hT hA' HA
 have hb:=HOK.out
 unfold okA at hb
 have wW:IntKind.i64.wrap W=W:=IntWalk.i64_in _ (by omega)
 have wH:IntKind.i64.wrap H=H:=IntWalk.i64_in _ (by omega)
 have wT:IntKind.i64.wrap T=T:=IntWalk.i64_in _ (by omega)
 go_region_held3 (fun w'=>w'.cell? ⟨a.block,a.off+4,none⟩=some (.int .u8 W)∧w'.cell? ⟨a.block,a.off+5,none⟩=some (.int .u8 H)∧w'.cell? ⟨a.block,a.off+6,none⟩=some (.int .u8 T)) (go_keep) (fail)
 have G1:=GW.start (W:=W) (H:=H) (T:=T) q0 r0 s0
 clear wW wH wT n4 n5 n6 d4 d5 d6 r0 q0
 generalize (W0.alloc (.cells #[.int .i64 W,.int .i64 H,.int .i64 T,.slice none 0 0,.slice none 0 0,.slice none 0 0,.slice none 0 0] 37)).drew=W1 at G1 ⊢
 clear s0
 obtain ⟨gc,hgc⟩:∃ gc,w.heap.size+1=gc:=⟨_,rfl⟩
 rw [hgc] at G1 ⊢
 clear hgc
 have G1:=hd_ G1
 have k0:=G1.out.box.cell 0
 have k1:=G1.out.box.cell 1
 have k2:=G1.out.box.cell 2
 simp [Cfg.cells,cfg0] at k0 k1 k2
 go_wp2_with fail
 refine (check_yes _ _ _ _ HOK.out).mono ?_
 rintro e w2 ⟨rfl,hb2⟩
 have G2:=hd_ (G1.out.keep hb2)
 clear hb2 k0 k1 k2 G1
 have k0:=G2.out.box.cell 0
 have k1:=G2.out.box.cell 1
 have k2:=G2.out.box.cell 2
 simp [Cfg.cells,cfg0] at k0 k1 k2
 go_wp2_with fail
 refine (edges_yes _ _ _ _ HOK.out).mono ?_
 rintro e w3 ⟨v,rfl,hb3,hown⟩
 have hne:(edgesL W H T).length=gN l:=by unfold gN;rw [HW.out,HH.out,HT.out]
 obtain ⟨N,hN⟩:∃ N,gN l=N:=⟨_,rfl⟩
 have HN:=hd_ hN
 have hN6:N<=6000000:=by rw [<- hN,<- hne];unfold edgesL;rw [sortP_length];exact rawL_len HOK.out
 rw [hne,hN] at hown
 obtain ⟨AE,cE,rfl⟩:=own_slice hown
 have G3:=hd_ (G2.out.keep hb3)
 clear hown hb3 G2 k0 k1 k2 hne hN
 have k0:=G3.out.box.cell 0
 have k1:=G3.out.box.cell 1
 simp [Cfg.cells,cfg0] at k0 k1
 have HU7:=hd_ (fun k:Nat=>bnum2 (w3.drewN k) a n c l (HRD.out.later (below_drewN G3.out.below k)) HL.out (by omega) 7 (by omega) _ (add_lit a (by omega)).symm)
 have HU9:=hd_ (fun k:Nat=>bnum2 (w3.drewN k) a n c l (HRD.out.later (below_drewN G3.out.below k)) HL.out (by omega) 9 (by omega) _ (add_lit a (by omega)).symm)
 go_wp2_with fail
 go_quiet ((first|(go_at_call 37;with_reducible exact Calls.quiet_of_same (HU7.out _))|(go_at_call 37;with_reducible exact Calls.quiet_of_same (HU9.out _))))
 have G4:=hd_ (G3.out.drewN nq)
 clear HU7 HU9 k0 k1 G3
 generalize w3.drewN nq=w4 at G4 ⊢
 have hsz:=HZ.out
 have hwh:=gT_mul l
 rw [HN.out] at hsz
 unfold sizeB atP atS at hsz
 rw [HW.out,HH.out] at hwh
 obtain ⟨nt,hnt⟩:∃ nt,nT l=nt:=⟨_,rfl⟩
 obtain ⟨ni,hni⟩:∃ ni,num2 l 7=ni:=⟨_,rfl⟩
 obtain ⟨nu,hnu⟩:∃ nu,num2 l 9=nu:=⟨_,rfl⟩
 unfold nI nU at hsz
 rw [hni,hnu,hnt] at hsz
 rw [hnt] at hwh
 rw [hni,hnu]
 have HNT:=hd_ hnt
 have HNI:=hd_ hni
 have HNU:=hd_ hnu
 have hnt2:nt<=256:=by
  have h1:W*H<=16*16:=Int.mul_le_mul (by omega) (by omega) (by omega) (by omega)
  omega
 clear hnt hni hnu
 have k0:=G4.out.box.cell 0
 have k1:=G4.out.box.cell 1
 simp [Cfg.cells,cfg0] at k0 k1
 obtain ⟨e,he⟩:∃ e:Nat,n=e+4:=⟨n-4,by omega⟩
 have hee:(n:Int)-4=(e:Int):=by omega
 have hd10:((e:Int) != 11+3*(nt:Int)+((N:Int)+7)/8+2*((ni:Int)+(nu:Int)))=false:=by rw [bne_eq_false_iff_eq];omega
 have HSZ:=hd_ hsz
 have hb1:nt+N+ni+nu<=100000:=by omega
 have he1:e+4<=n:=by omega
 have he2:n<=e+4:=by omega
 clear hsz he
 go_wp2_with fail
 have hS:=HS.out
 have hes:sizeB l (gN l)=e:=by have:=HZ.out;omega
 rw [hes] at hS
 have hbs:=fun k:Nat=>bsum_any (w4.drewN k) (some a) e c (l.take e) (rd_take (HRD.out.later (below_drewN G4.out.below k)) (by omega)) (fun x hx=>HL.out x (List.mem_of_mem_take hx)) (by omega)
 have hbn:=fun k:Nat=>bnumber_any (w4.drewN k) (some (a.add e)) 4 (c-e) ((l.drop e).take 4) (rd_cut (HRD.out.later (below_drewN G4.out.below k)) (by omega) (by omega)) (fun x hx=>HL.out x (List.mem_of_mem_drop (List.mem_of_mem_take hx))) (by omega)
 have hse:=sumB_lt (l.take e)
 rw [show (l.drop e).take 4=four (sumB (l.take e)) by rw [hS];rfl,numB_four _ hse] at hbn
 generalize sumB (l.take e)=sm at hbs hbn hse
 have HBS:=hd_ hbs
 have HBN:=hd_ hbn
 have h4:n-e=4:=by omega
 clear hS hes hbs hbn hwh k0 k1 hd10 hd15 i4 i5 i6
 have hu32:IntKind.u32.wrap (sm:Int)=(sm:Int):=by
  have h1:(sm:Int)%4294967296=(sm:Int):=by omega
  simpa [IntKind.wrap,IntKind.bits,IntKind.signed] using h1
 go_quiet ((first|(go_at_call 13;with_reducible exact Calls.quiet_of_same (HBS.out _))|(go_at_call 37;with_reducible exact Calls.quiet_of_same (HBN.out _))))
 have G5:=hd_ (G4.out.drewN nq)
 clear HBS HBN hu32 hse hb1 h4 G4
 generalize w4.drewN nq=w5 at G5 ⊢
 have hmf:∀ (fn:Fn) (first cap:Array Value) (w:World),(Instr.makeFunc fn first cap).run Tryz.prog w=.ok (.func fn first cap) w:=fun _ _ _ _=>rfl
 go_wp2_with fail
 have S6:=GS.start G5.out (.inr trivial) (a:=a) (e:=e) (c:=c)
 rw [add_lit a (by omega)] at S6
 obtain ⟨gl,hgl⟩:∃ gl,w5.heap.size=gl:=⟨_,rfl⟩
 rw [hgl] at S6 ⊢
 generalize w5.alloc (.cells #[.slice (some ⟨a.block,a.off+11,none⟩) (e-11) (c-11)] 44)=w6 at S6 ⊢
 have S6:=hd_ S6
 have hmax:c<=maxLen:=hc
 have hec:e<c:=by omega
 have HX:Hid (11+3*nt+(N+7)/8+2*(ni+nu)=e):=hd_ (by have:=HSZ.out;omega)
 clear hmf hgl G5 hee he2 hc
 go_loopw [13,102] (fun o i wx=>∃ (k:Nat) (C:Cfg),k<=nt∧i=.int .i64 (k:Int)∧o=.bool (oddT l 11 k)∧C.tiles=tilesAt l 11 k∧TR1 C W H T∧GS w wx gc gl a e c (11+3*k) C) (fun _ i _=>nt-(intOf i).toNat)
 case atStart=>exact ⟨0,cfg0 W H T,by omega,rfl,by simp [oddT],by simp [cfg0,tilesAt],⟨rfl,rfl,rfl,rfl,rfl,rfl,rfl⟩,S6.out⟩
 case round =>
  clear S6
  obtain ⟨k,C,hk,rfl,rfl,hct,htr,hs⟩:=hrel
  have HCT:=hd_ hct
  have HTR:=hd_ htr
  obtain ⟨p,hp⟩:∃ p,11+3*k=p:=⟨_,rfl⟩
  rw [hp] at hs
  have HPP:=hd_ hp
  have HS7:=hd_ hs
  clear hct htr hs hp
  by_cases hlt:k<nt
  ·have hpe:p+3<=e:=by have:=HX.out;have:=HPP.out;omega
   have h3:=hd_ (next3 gl a p e c hpe hec hmax wr HS7.out.left)
   go_wp2_with fail
   refine h3.out.mono ?_
   rintro e7 w7 ⟨rfl,hw7⟩
   have T7:=HS7.out.to (p+3)
   rw [<- hw7] at T7
   have T7:=hd_ T7
   clear hw7 h3 HS7
   have d2:=rd_byte (HRD.out.later T7.out.gw.below) (k:=p+2) (by omega)
   rw [<- add_field a p 2 (by omega)] at d2
   have n2:=World.new_ne w7 _ d2
   have k3:w7.cell? ⟨gc,3,none⟩=some (.slice C.AT C.tiles.length C.cT):=T7.out.gw.box.cell 3
   have f3:=T7.out.gw.box.free 3
   have n3:=World.new_ne w7 _ k3
   have hx2:=getD_lt HL.out (p+2)
   have hod:=oddT_next l 11 k
   have htn:=tilesAt_next l 11 k
   rw [HPP.out] at hod htn
   obtain ⟨x2,hx2e⟩:∃ x2,l.getD (p+2) 0=x2:=⟨_,rfl⟩
   rw [hx2e] at d2 hx2 hod htn
   have HX2:=hd_ hx2e
   clear hx2e
   have ha1:=and1_u8 x2 hx2
   have ha2:=and2_u8 x2 hx2
   obtain ⟨b1,hb1⟩:∃ b1,decide (x2%2=1)=b1:=⟨_,rfl⟩
   obtain ⟨b2,hb2⟩:∃ b2,decide (x2/2%2=1)=b2:=⟨_,rfl⟩
   have hn1:(bits .and .u8 (x2:Int) 1 != 0)=b1:=by rw [ha1,bit_ne,hb1]
   have hn2:(bits .and .u8 (x2:Int) 2 != 0)=b2:=by rw [ha2,bit2_ne,hb2]
   rw [hb1,hb2] at htn
   have HOD:=hd_ hod
   have HTN:=hd_ htn
   clear hod htn ha1 ha2 hb1 hb2
   have HNM:=hd_ (fun (W:World) (hW:Below w.heap.size w W)=>bnum2 W a n c l (HRD.out.later hW) HL.out (by omega) p (by omega) _ rfl)
   have k8:(w7.alloc (.cells #[.int .i64 (num2 l p:Int),.bool b1,.bool b2] 65)).cell? ⟨gc,3,none⟩=some (.slice C.AT C.tiles.length C.cT):=(T7.out.gw.box.alloc _).cell 3
   have hcp:(2:Int)<=((c-p:Nat):Int):=by omega
   have hTL:C.tiles.length<=256:=by rw [HCT.out,tilesAt_len];omega
   obtain ⟨i0,hi0,hz0,hz1,hz2⟩:=info_parts tile_info
   have HI0:=hd_ hi0
   have HZ0:=hd_ hz0
   have HZ1:=hd_ hz1
   have HZ2:=hd_ hz2
   clear hi0 hz0 hz1 hz2
   generalize oddT l 11 k=od at HOD ⊢
   go_wp2_with fail
   refine wp_region_held_drew (S:=(fun w2=>w2.cell? ⟨(a.add p).block,(a.add p).off+2,none⟩=some (.int .u8 (x2:Int)))) (by kernel_rfl) ?_ (fun hh=>?_)
   ·first|go_keep|exact (World.cell?_setCell_other _ _ _ _ (by first|exact m9|exact m9.symm)).trans d9
   show wpAnyH _ _ _ _ _ _ #[false,false,false,false,false,false,false,false,false,false,false,false,false,false,false,false,false,false,false,false] _ _
   refine' stage1 (M:=fun (wx:World)=>(fun wx=>wx=(w7.alloc (.cells #[.int .i64 (num2 l p:Int),.bool b1,.bool b2] 65)).drew) wx) (fun h1_4_16=>?main) ?p1_4_16
   case main =>
    refine tk_ 0 oGt18 (v:=?_) ?_ ?_
    rotate_left
    ·intro w hSw;(try dsimp only at hSw);go_simp;(try with_reducible rfl)
    try simp only [Act.put,la_,lz_,ls_]
    refine tk_ 2 oGt20 (v:=?_) ?_ ?_
    rotate_left
    ·intro w hSw;(try dsimp only at hSw);go_simp;(try with_reducible rfl)
    try simp only [Act.put,la_,lz_,ls_]
    refine tk_ 3 oGt21 (v:=?_) ?_ ?_
    rotate_left
    ·intro w hSw;(try dsimp only at hSw);go_simp;(try with_reducible rfl)
    try simp only [Act.put,la_,lz_,ls_]
    refine tk_ 5 oGt23 (v:=?_) ?_ ?_
    rotate_left
    ·intro w hSw;(try dsimp only at hSw);go_simp;(try with_reducible rfl)
    try simp only [Act.put,la_,lz_,ls_]
    refine tk_ 6 oGt24 (v:=?_) ?_ ?_
    rotate_left
    ·intro w hSw;(try dsimp only at hSw);go_simp;(try with_reducible rfl)
    try simp only [Act.put,la_,lz_,ls_]
    refine tk_ 7 oGt25 (v:=?_) ?_ ?_
    rotate_left
    ·intro w hSw;(try dsimp only at hSw);go_simp;(try with_reducible rfl)
    try simp only [Act.put,la_,lz_,ls_]
    refine tk_ 8 oGt26 (v:=?_) ?_ ?_
    rotate_left
    ·intro w hSw;(try dsimp only at hSw);go_simp;(try with_reducible rfl)
    try simp only [Act.put,la_,lz_,ls_]
    refine tk_ 9 oGt27 (v:=?_) ?_ ?_
    rotate_left
    ·intro w hSw;(try dsimp only at hSw);go_simp;(try with_reducible rfl)
    try simp only [Act.put,la_,lz_,ls_]
    refine tk_ 10 oGt28 (v:=?_) ?_ ?_
    rotate_left
    ·intro w hSw;(try dsimp only at hSw);go_simp;(try with_reducible rfl)
    try simp only [Act.put,la_,lz_,ls_]
    refine tk_ 11 oGt29 (v:=?_) ?_ ?_
    rotate_left
    ·intro w hSw;(try dsimp only at hSw);go_simp;(try with_reducible rfl)
    try simp only [Act.put,la_,lz_,ls_]
    refine tk_ 12 oGt30 (v:=?_) ?_ ?_
    rotate_left
    ·intro w hSw;(try dsimp only at hSw);go_simp;(try with_reducible rfl)
    try simp only [Act.put,la_,lz_,ls_]
    refine tk_ 13 oGt31 (v:=?_) ?_ ?_
    rotate_left
    ·intro w hSw;(try dsimp only at hSw);go_simp;(try with_reducible rfl)
    try simp only [Act.put,la_,lz_,ls_]
    refine tk_ 14 oGt32 (v:=?_) ?_ ?_
    rotate_left
    ·intro w hSw;(try dsimp only at hSw);go_simp;(try with_reducible rfl)
    try simp only [Act.put,la_,lz_,ls_]
    refine rd_ [1,4] ?_
    refine AllReadyH.cons (o:=oGt19) rfl (fun K hK=>?_) ?_
    ·skip
     go_simp
     refine hK.out _ _ ?_ (fun hh=>?_)
     ·first|go_keep|exact (World.cell?_setCell_other _ _ _ _ (by first|exact m9|exact m9.symm)).trans d9
     clear hK K
     try simp only [Act.put,la_,lz_,ls_]
     refine rd_ [4] ?_
     refine AllReadyH.cons (o:=oGt22) rfl (fun K hK=>?_) ?_
     ·clear hh
      go_simp
      with_reducible refine (HNM.out _ ?_).mono ?_
      ·exact below_drewN T7.out.gw.below 1
      rintro e8 w8 ⟨rfl,rfl⟩
      refine hK.out _ _ ?_ (fun hh=>?_)
      ·first|go_keep|exact (World.cell?_setCell_other _ _ _ _ (by first|exact m9|exact m9.symm)).trans d9
      clear hK K
      try simp only [Act.put,la_,lz_,ls_]
      refine tk_ 15 oGt33 (v:=?_) ?_ ?_
      rotate_left
      ·intro w hSw;(try dsimp only at hSw);go_simp;(try with_reducible rfl)
      try simp only [Act.put,la_,lz_,ls_]
      refine rd_ [16] ?_
      refine AllReadyH.cons (o:=oGt34) rfl (fun K hK=>?_) ?_
      ·clear hh
       go_simp
       refine hK.out _ _ ?_ (fun hh=>?_)
       ·first|go_keep|exact (World.cell?_setCell_other _ _ _ _ (by first|exact m9|exact m9.symm)).trans d9
       clear hK K
       try simp only [Act.put,la_,lz_,ls_]
       exact h1_4_16 _ rfl
      exact AllReadyH.nil
     exact AllReadyH.nil
    refine AllReadyH.cons (o:=oGt22) rfl (fun K hK=>?_) ?_
    ·skip
     go_simp
     with_reducible refine (HNM.out _ ?_).mono ?_
     ·exact below_drewN T7.out.gw.below 1
     rintro e8 w8 ⟨rfl,rfl⟩
     refine hK.out _ _ ?_ (fun hh=>?_)
     ·first|go_keep|exact (World.cell?_setCell_other _ _ _ _ (by first|exact m9|exact m9.symm)).trans d9
     clear hK K
     try simp only [Act.put,la_,lz_,ls_]
     refine tk_ 15 oGt33 (v:=?_) ?_ ?_
     rotate_left
     ·intro w hSw;(try dsimp only at hSw);go_simp;(try with_reducible rfl)
     try simp only [Act.put,la_,lz_,ls_]
     refine rd_ [1,16] ?_
     refine AllReadyH.cons (o:=oGt19) rfl (fun K hK=>?_) ?_
     ·clear hh
      go_simp
      refine hK.out _ _ ?_ (fun hh=>?_)
      ·first|go_keep|exact (World.cell?_setCell_other _ _ _ _ (by first|exact m9|exact m9.symm)).trans d9
      clear hK K
      try simp only [Act.put,la_,lz_,ls_]
      refine rd_ [16] ?_
      refine AllReadyH.cons (o:=oGt34) rfl (fun K hK=>?_) ?_
      ·clear hh
       go_simp
       refine hK.out _ _ ?_ (fun hh=>?_)
       ·first|go_keep|exact (World.cell?_setCell_other _ _ _ _ (by first|exact m9|exact m9.symm)).trans d9
       clear hK K
       try simp only [Act.put,la_,lz_,ls_]
       exact h1_4_16 _ rfl
      exact AllReadyH.nil
     refine AllReadyH.cons (o:=oGt34) rfl (fun K hK=>?_) ?_
     ·clear hh
      go_simp
      refine hK.out _ _ ?_ (fun hh=>?_)
      ·first|go_keep|exact (World.cell?_setCell_other _ _ _ _ (by first|exact m9|exact m9.symm)).trans d9
      clear hK K
      try simp only [Act.put,la_,lz_,ls_]
      refine rd_ [1] ?_
      refine AllReadyH.cons (o:=oGt19) rfl (fun K hK=>?_) ?_
      ·clear hh
       go_simp
       refine hK.out _ _ ?_ (fun hh=>?_)
       ·first|go_keep|exact (World.cell?_setCell_other _ _ _ _ (by first|exact m9|exact m9.symm)).trans d9
       clear hK K
       try simp only [Act.put,la_,lz_,ls_]
       exact h1_4_16 _ rfl
      exact AllReadyH.nil
     exact AllReadyH.nil
    exact AllReadyH.nil
   case p1_4_16 =>
    intro wx hMK
    subst hMK
    have hh:=True.intro
    refine rd_ [17] ?_
    refine AllReadyH.cons (o:=oGt35) rfl (fun K hK=>?_) ?_
    ·clear hh
     have T8:GS w (w7.alloc (.cells #[.int .i64 (num2 l p:Int),.bool b1,.bool b2] 65)).drew gc gl a e c (p+3) C:=(T7.out.keep (bn_ _ _)).drewN 1
     have T8:=hd_ T8
     refine step_append_lies _ (by rfl) (.tmp 107) (.tmp 122) 34 (by rfl) (gc+1) 65 i0 (.agg #[.int .i64 0,.bool false,.bool false]) 3 16 Tryz.underlying34 HI0.out HZ0.out HZ1.out HZ2.out rfl (by decide) C.AT' C.tiles.length (tiles3 C.tiles) (by rfl) T8.out.gw.rT ⟨w7.heap.size,0,none⟩ 1 1 [.int .i64 (num2 l p:Int),.bool b1,.bool b2] (by rfl) rfl (new_cells w7 _ _) (by intro u hu;simp at hu;rcases hu with rfl|rfl|rfl <;> rfl) (by decide) (by unfold maxLen;omega) (by omega) (by have:=T8.out.gw.lt;omega) (w7.heap.size+1) (by simp) ?_
     intro g9 cap9 w9 hown9 hg9 hat9 hlt9
     have d9:=rd_byte (HRD.out.later (T8.out.gw.grow hg9 (fun g e=>own_base T8.out.gw.rT e)).1) (k:=p+2) (by omega)
     rw [<- add_field a p 2 (by omega),HX2.out] at d9
     have k9:w9.cell? ⟨gc,3,none⟩=some (.slice C.AT C.tiles.length C.cT):=(T8.out.gw.grow hg9 (fun g e=>own_base T8.out.gw.rT e)).2.2.cell 3
     have f9:w9.frozen? ⟨gc,3,none⟩=false:=(T8.out.gw.grow hg9 (fun g e=>own_base T8.out.gw.rT e)).2.2.free 3
     have m9:(⟨gc,3,none⟩:Addr)≠⟨(a.add p).block,(a.add p).off+2,none⟩:=gc_far HRD.out T8.out.gw (by omega) _ _
     refine hK.out _ _ ?_ (fun hh=>?_)
     ·first|go_keep|exact (World.cell?_setCell_other _ _ _ _ (by first|exact m9|exact m9.symm)).trans d9
     clear hK K
     try simp only [Act.put,la_,lz_,ls_]
     refine tk_ 18 oGt36 (v:=?_) ?_ ?_
     rotate_left
     ·intro w hSw;(try dsimp only at hSw);go_simp;(try with_reducible rfl)
     try simp only [Act.put,la_,lz_,ls_]
     refine rd_ [19] ?_
     refine AllReadyH.cons (o:=oGt37) rfl (fun K hK=>?_) ?_
     ·clear hh
      go_simp
      refine hK.out _ _ ?_ (fun hh=>?_)
      ·first|go_keep|exact (World.cell?_setCell_other _ _ _ _ (by first|exact m9|exact m9.symm)).trans d9
      clear hK K
      try simp only [Act.put,la_,lz_,ls_]
      refine wpAnyH_done (by kernel_rfl) ?_ _
      have T10:=T8.out.setT (t:=((num2 l p:Int),b1,b2)) hg9 rfl (by rw [tiles3_snoc];exact hown9)
      generalize w9.setCell ⟨gc,3,none⟩ (.slice (some ⟨g9,0,none⟩) (C.tiles.length+1) cap9)=w10 at T10 ⊢
      have T10:=hd_ T10
      clear T8 hg9 hown9 hat9 hlt9 d9 T7 d2 n2 n3 k3 k8 f3 HNM hh
      have d10:=rd_byte (HRD.out.later T10.out.gw.below) (k:=p+2) (by omega)
      rw [<- add_field a p 2 (by omega),HX2.out] at d10
      have hrel:∀ o2:Value,o2=.bool (od||decide (3<x2))->∃ (k':Nat) (C':Cfg),k'<=nt∧Value.int .i64 ((k:Int)+1)=.int .i64 (k':Int)∧o2=.bool (oddT l 11 k')∧C'.tiles=tilesAt l 11 k'∧TR1 C' W H T∧GS w w10 gc gl a e c (11+3*k') C':=fun o2 ho2=>by
       refine ⟨k+1,_,by omega,by go_num,by rw [HOD.out];exact ho2,?_,?_,by have h:=T10.out;have e3:11+3*(k+1)=p+3:=(by have:=HPP.out;omega);rw [e3];exact h⟩
       ·rw [HTN.out,<- HCT.out]
       ·exact HTR.out
      have HREL:=hd_ hrel
      clear hrel
      cases od with
      | true =>
       go_wp2_with fail
       go_roundw
       case rel=>exact HREL.out _ (by simp)
       case measure=>simp [intOf];omega
      | false =>
       by_cases hx3:3<x2
       ·have hd:decide ((3:Int)<(x2:Int))=true:=decide_eq_true (by omega)
        go_wp2_with fail
        go_roundw
        case rel=>exact HREL.out _ (by simp [hx3])
        case measure=>simp [intOf];omega
       ·have hd:decide ((3:Int)<(x2:Int))=false:=decide_eq_false (by omega)
        go_wp2_with fail
        go_roundw
        case rel=>exact HREL.out _ (by simp [hx3])
        case measure=>simp [intOf];omega
     exact AllReadyH.nil
    exact AllReadyH.nil
  ·obtain rfl:k=nt:=by omega
   have htd:C.tiles=decT l:=by rw [HCT.out];unfold decT;rw [HNT.out]
   have HTD:=hd_ htd
   obtain ⟨od,hod0⟩:∃ od,oddT l 11 k=od:=⟨_,rfl⟩
   rw [hod0]
   have HOD0:Hid (oddT l 11 (nT l)=od):=hd_ (by rw [HNT.out];exact hod0)
   clear hod0
   obtain ⟨nb,hnb⟩:∃ nb:Nat,(N+7)/8=nb:=⟨_,rfl⟩
   have hnb2:((N:Int)+7)/8=(nb:Int):=by omega
   have hpe:p+nb+2*(ni+nu)<=e:=by have:=HX.out;have:=HPP.out;omega
   have hnN:8*nb<=N+7∧N<=8*nb:=by omega
   have HNB:=hd_ hnb
   clear htd hnb
   have h3:=hd_ (next_any gl a p e c nb (by omega) hec hmax wr HS7.out.left)
   go_wp2_with fail
   refine h3.out.mono ?_
   rintro e7 w7 ⟨rfl,hw7⟩
   have T7:=HS7.out.to (p+nb)
   rw [<- hw7] at T7
   have T7:=hd_ T7
   have htr2:=TR2.of HTR.out
   clear hw7 h3 HS7 hnb2 HCT
   go_wp2_with fail
   go_loopw [13,140] (fun o i wx=>∃ (q:Nat) (C:Cfg),q<=nb∧i=.int .i64 (q:Int)∧o=.bool (od||oddX l p N (8*q))∧C.tiles=decT l∧C.on=bitsAt l p (min N (8*q))∧TR2 C W H T∧GS w wx gc gl a e c (p+nb) C) (fun _ i _=>nb-(intOf i).toNat)
   case atStart=>exact ⟨0,C,by omega,rfl,by simp [oddX],HTD.out,by rw [show min N (8*0)=0 by omega];simp [bitsAt];exact htr2.2.2.2.1,htr2.1,T7.out⟩
   case round =>
    clear T7 htr2
    obtain ⟨q,C2,hq,rfl,rfl,htd2,hon,htr,hs⟩:=hrel
    have HTD2:=hd_ htd2
    have HON:=hd_ hon
    have HTR2:=hd_ htr
    have HS8:=hd_ hs
    clear htd2 hon htr hs
    by_cases hlt2:q<nb
    ·have d2:=rd_byte (HRD.out.later HS8.out.gw.below) (k:=p+q) (by omega)
     rw [<- add_add] at d2
     have hx2:=getD_lt HL.out (p+q)
     obtain ⟨x2,hx2e⟩:∃ x2,l.getD (p+q) 0=x2:=⟨_,rfl⟩
     rw [hx2e] at d2 hx2
     have HX2:=hd_ hx2e
     obtain ⟨od2,hod2⟩:∃ od2,(od||oddX l p N (8*q))=od2:=⟨_,rfl⟩
     rw [hod2]
     have HOD2:=hd_ hod2
     clear hx2e hod2
     have g0:(0:Int)<=(q:Int):=by omega
     have g1:(q:Int)<(nb:Int):=by omega
     go_wp2_with fail
     clear d2
     go_loopw [13,145] (fun o i wx=>∃ (j:Nat) (C:Cfg),j<=8∧i=.int .i64 (j:Int)∧o=.bool (od||oddX l p N (8*q+j))∧C.tiles=decT l∧C.on=bitsAt l p (min N (8*q+j))∧TR2 C W H T∧GS w wx gc gl a e c (p+nb) C) (fun _ i _=>8-(intOf i).toNat)
     case atStart=>exact ⟨0,C2,by omega,rfl,by rw [Nat.add_zero,HOD2.out],HTD2.out,HON.out,HTR2.out,HS8.out⟩
     case round =>
      clear HS8 HON HTD2 HTR2
      obtain ⟨j,C3,hj,rfl,rfl,htd2,hon,htr,hs⟩:=hrel
      have HTD3:=hd_ htd2
      have HON3:=hd_ hon
      have HTR3:=hd_ htr
      have HS9:=hd_ hs
      clear htd2 hon htr hs
      obtain ⟨od3,hod3⟩:∃ od3,(od||oddX l p N (8*q+j))=od3:=⟨_,rfl⟩
      rw [hod3]
      have HOD3:=hd_ hod3
      clear hod3
      by_cases hj8:j<8
      ·have hbx:=bitsAt_next l p (8*q+j)
       have hox:=oddX_next l p N (8*q+j)
       rw [show (8*q+j)/8=q by omega,show (8*q+j)%8=j by omega,HX2.out] at hbx hox
       obtain ⟨b1,hb1⟩:∃ b1,decide (x2/2 ^ j%2=1)=b1:=⟨_,rfl⟩
       rw [hb1] at hbx hox
       have HBX:=hd_ hbx
       have HOX:=hd_ hox
       have HB1:=hd_ hb1
       clear hbx hox hb1
       have hbit:(bits .and .u8 ((x2:Int)/2 ^ j) 1==1)=b1:=by
        have h0:x2/2 ^ j<256:=Nat.lt_of_le_of_lt (Nat.div_le_self _ _) hx2
        have h1:((x2:Int)/2 ^ j)=((x2/2 ^ j:Nat):Int):=by rw [Int.natCast_ediv,Int.natCast_pow];rfl
        rw [h1,and1_u8 _ h0,bit_eq,HB1.out]
       by_cases hN:8*q+j<N
       ·have hN1:(8:Int)*(q:Int)+(j:Int)<(N:Int):=by omega
        have k4:wr.cell? ⟨gc,4,none⟩=some (.slice C3.AO C3.on.length C3.cO):=HS9.out.gw.box.cell 4
        have f4:=HS9.out.gw.box.free 4
        have hol:C3.on.length<=6000000:=by rw [HON3.out,bitsAt_len];omega
        go_wp2_with (at_builtin;refine wpList_app_bools rfl (.tmp 161) (.tmp 163) rfl (gc+1) C3.AO C3.on.length C3.cO C3.on rfl (HS9.out.gw.rO.alloc _) (some ⟨wr.heap.size,0,none⟩) 1 1 [b1] rfl (rd_bool1 wr _ b1) (by omega) (by have:=HS9.out.gw.lt;simp;omega) ?_)
        intro A9 c9 w9 hown9 hg9
        have hg9:wr.grownBy w9 C3.AO'.ownBlock:=(World.grownBy_alloc wr _ _).trans hg9
        have B9:=(HS9.out.gw.grow hg9 (fun g e=>own_base HS9.out.gw.rO e)).2.2
        have k9:w9.cell? ⟨gc,4,none⟩=some (.slice C3.AO C3.on.length C3.cO):=B9.cell 4
        have f9:=B9.free 4
        have T10:=hd_ (HS9.out.setO hg9 rfl hown9)
        clear B9 hg9 hown9 k4 f4 hbit
        go_wp2_with fail
        go_roundw
        case rel =>
         refine ⟨j+1,_,by omega,by go_num,?_,?_,?_,?_,T10.out⟩
         ·rw [<- Nat.add_assoc,HOX.out,decide_eq_false (show ¬ N<=8*q+j by omega),Bool.false_and,Bool.or_false,HOD3.out]
         ·exact HTD3.out
         ·rw [<- Nat.add_assoc,show min N (8*q+j+1)=8*q+j+1 by omega,HBX.out]
          have h:=HON3.out
          rw [show min N (8*q+j)=8*q+j by omega] at h
          show C3.on++[b1]=_
          rw [h]
         ·exact HTR3.out
        case measure=>simp [intOf];omega
       ·have hN1:decide ((8:Int)*(q:Int)+(j:Int)<(N:Int))=false:=decide_eq_false (by omega)
        have hrel2:∀ o2:Value,o2=.bool (od3||b1)->∃ (j':Nat) (C':Cfg),j'<=8∧Value.int .i64 ((j:Int)+1)=.int .i64 (j':Int)∧o2=.bool (od||oddX l p N (8*q+j'))∧C'.tiles=decT l∧C'.on=bitsAt l p (min N (8*q+j'))∧TR2 C' W H T∧GS w wr gc gl a e c (p+nb) C':=fun o2 ho2=>by
         refine ⟨j+1,C3,by omega,by go_num,?_,HTD3.out,?_,HTR3.out,HS9.out⟩
         ·rw [ho2,<- Nat.add_assoc,HOX.out,decide_eq_true (show N<=8*q+j by omega),Bool.true_and,<- Bool.or_assoc,HOD3.out]
         ·have h:=HON3.out
          rw [show min N (8*q+j)=N by omega] at h
          rw [<- Nat.add_assoc,show min N (8*q+j+1)=N by omega]
          exact h
        have HREL2:=hd_ hrel2
        clear hrel2
        cases od3 with
        | true =>
         go_wp2_with fail
         go_roundw
         case rel=>exact HREL2.out _ (by simp)
         case measure=>simp [intOf];omega
        | false =>
         go_wp2_with fail
         go_roundw
         case rel=>exact HREL2.out _ (by simp)
         case measure=>simp [intOf];omega
      ·obtain rfl:j=8:=by omega
       go_wp2_with fail
       go_roundw
       case rel=>exact ⟨q+1,C3,by omega,by go_num,by rw [<- HOD3.out,show 8*(q+1)=8*q+8 by omega],HTD3.out,by rw [show 8*(q+1)=8*q+8 by omega];exact HON3.out,HTR3.out,HS9.out⟩
       case measure=>simp [intOf];omega
    ·obtain rfl:q=nb:=by omega
     have hod4:(od||oddX l p N (8*q))=(od||oddS l p N):=by rw [<- HNB.out,oddX_full HL.out]
     rw [hod4]
     obtain ⟨odf,hodf⟩:∃ odf,(od||oddS l p N)=odf:=⟨_,rfl⟩
     rw [hodf]
     have HODF:=hd_ hodf
     have htrw:TRW C2 W H T l N:=by
      obtain ⟨h1,h2,h3,h4,h5,h6⟩:=HTR2.out
      refine ⟨h1,h2,h3,HTD2.out,?_⟩
      have h:=HON.out
      rw [show min N (8*q)=N by omega] at h
      rw [h];unfold decO atS;rw [HNT.out,HPP.out]
     have HTRW:=hd_ htrw
     have HOUT0:=hd_ (And.intro HTR2.out.2.2.2.1 HTR2.out.2.2.2.2)
     clear hod4 hodf htrw HTR2 HON HTD2
     obtain ⟨p2,hp2⟩:∃ p2,p+q=p2:=⟨_,rfl⟩
     rw [hp2] at HS8
     have HP2:Hid (atS l+(N+7)/8=p2):=hd_ (by unfold atS;rw [HNT.out,HPP.out,HNB.out];exact hp2)
     have hpb:p2+2*(ni+nu)<=e:=by omega
     clear hp2
     go_wp2_with fail
     go_loopw [173] (fun i wx=>∃ (q:Nat) (C:Cfg),q<=ni∧i=.int .i64 (q:Int)∧TRW C W H T l N∧(C.ins=numsAt l p2 q∧C.outs=[]∧C.AU=none)∧GS w wx gc gl a e c (p2+2*q) C) (fun i _=>ni-(intOf i).toNat)
     case atStart=>exact ⟨0,C2,by omega,rfl,HTRW.out,⟨by rw [HOUT0.out.1];simp [numsAt],HOUT0.out.2.1,HOUT0.out.2.2⟩,HS8.out⟩
     case round =>
      clear HS8 HTRW
      obtain ⟨q,C3,hq,rfl,htr,hin3,hs⟩:=hrel
      have HTRW:=hd_ htr
      have HIN3:=hd_ hin3
      obtain ⟨p5,hp5⟩:∃ p5,p2+2*q=p5:=⟨_,rfl⟩
      rw [hp5] at hs
      have HP5:=hd_ hp5
      have HS9:=hd_ hs
      clear htr hin3 hs hp5
      by_cases hlt3:q<ni
      ·have hpe5:p5+2<=e:=by have:=HP5.out;have:=HX.out;have:=HPP.out;omega
       have HNX:=hd_ (fun (W:World) (hB:Boxed W gl 44 (.slice (some (a.add p5)) (e-p5) (c-p5)))=>next2 gl a p5 e c hpe5 hec hmax W hB)
       have HNM:=hd_ (fun (W:World) (hW:Below w.heap.size w W)=>bnum2 W a n c l (HRD.out.later hW) HL.out (by omega) p5 (by omega) _ rfl)
       have k5:wr.cell? ⟨gc,5,none⟩=some (.slice C3.AI C3.ins.length C3.cI):=HS9.out.gw.box.cell 5
       have hgl2:gc≠gl:=by have:=HS9.out.hgl;omega
       have hil:C3.ins.length<=100000:=by rw [HIN3.out.1,numsAt_len];omega
       obtain ⟨i0,hi0,hz0,hz1,hz2⟩:=info_parts int_info
       have HI0:=hd_ hi0
       have HZ0:=hd_ hz0
       have HZ1:=hd_ hz1
       have HZ2:=hd_ hz2
       clear hi0 hz0 hz1 hz2
       go_wp2_with fail
       refine wp_region_held_drew (S:=(fun _=>True)) (by kernel_rfl) ?_ (fun hh=>?_)
       ·trivial
       show wpAnyH _ _ _ _ _ _ #[false,false,false,false,false,false,false,false,false] _ _
       refine' stage2 (M:=fun (w7:World) (wx:World)=>(fun wx=>GS w w7 gc gl a e c (p5+2) C3∧wx=w7.alloc (.cells #[.int .i64 (num2 l p5:Int)] 3)) wx) (fun h1_3_4_5=>?main) ?p1_3_4_5
       case main =>
        refine tk_ 0 oGt0 (v:=?_) ?_ ?_
        rotate_left
        ·intro w hSw;(try dsimp only at hSw);go_simp;(try with_reducible rfl)
        try simp only [Act.put,la_,lz_,ls_]
        refine tk_ 2 oGt2 (v:=?_) ?_ ?_
        rotate_left
        ·intro w hSw;(try dsimp only at hSw);go_simp;(try with_reducible rfl)
        try simp only [Act.put,la_,lz_,ls_]
        refine rd_ [1,3] ?_
        refine AllReadyH.cons (o:=oGt1) rfl (fun K hK=>?_) ?_
        ·skip
         go_simp
         refine hK.out _ _ ?_ (fun hh=>?_)
         ·trivial
         clear hK K
         try simp only [Act.put,la_,lz_,ls_]
         refine rd_ [3] ?_
         refine AllReadyH.cons (o:=oGt3) rfl (fun K hK=>?_) ?_
         ·clear hh
          go_simp
          with_reducible refine (HNX.out _ ?_).mono ?_
          ·exact (HS9.out.drewN 1).left
          rintro e7 w7 ⟨rfl,hw7⟩
          have T7:GS w w7 gc gl a e c (p5+2) C3:=by rw [hw7];exact (HS9.out.drewN 1).to (p5+2)
          have T7:=hd_ T7
          clear hw7
          have k7:w7.cell? ⟨gc,5,none⟩=some (.slice C3.AI C3.ins.length C3.cI):=T7.out.gw.box.cell 5
          have k8:(w7.alloc (.cells #[.int .i64 (num2 l p5:Int)] 3)).cell? ⟨gc,5,none⟩=some (.slice C3.AI C3.ins.length C3.cI):=(T7.out.gw.box.alloc _).cell 5
          refine hK.out _ _ ?_ (fun hh=>?_)
          ·trivial
          clear hK K
          try simp only [Act.put,la_,lz_,ls_]
          refine rd_ [4] ?_
          refine AllReadyH.cons (o:=oGt4) rfl (fun K hK=>?_) ?_
          ·clear hh
           go_simp
           with_reducible refine (HNM.out _ ?_).mono ?_
           ·exact T7.out.gw.below
           rintro e8 w8 ⟨rfl,hw8⟩
           obtain rfl:w7=w8:=hw8.symm
           refine hK.out _ _ ?_ (fun hh=>?_)
           ·trivial
           clear hK K
           try simp only [Act.put,la_,lz_,ls_]
           refine rd_ [5] ?_
           refine AllReadyH.cons (o:=oGt5) rfl (fun K hK=>?_) ?_
           ·clear hh
            go_simp
            refine hK.out _ _ ?_ (fun hh=>?_)
            ·trivial
            clear hK K
            try simp only [Act.put,la_,lz_,ls_]
            exact h1_3_4_5 w7 _ ⟨T7.out,rfl⟩
           exact AllReadyH.nil
          exact AllReadyH.nil
         exact AllReadyH.nil
        refine AllReadyH.cons (o:=oGt3) rfl (fun K hK=>?_) ?_
        ·skip
         go_simp
         with_reducible refine (HNX.out _ ?_).mono ?_
         ·exact (HS9.out.drewN 1).left
         rintro e7 w7 ⟨rfl,hw7⟩
         have T7:GS w w7 gc gl a e c (p5+2) C3:=by rw [hw7];exact (HS9.out.drewN 1).to (p5+2)
         have T7:=hd_ T7
         clear hw7
         have k7:w7.cell? ⟨gc,5,none⟩=some (.slice C3.AI C3.ins.length C3.cI):=T7.out.gw.box.cell 5
         have k8:(w7.alloc (.cells #[.int .i64 (num2 l p5:Int)] 3)).cell? ⟨gc,5,none⟩=some (.slice C3.AI C3.ins.length C3.cI):=(T7.out.gw.box.alloc _).cell 5
         refine hK.out _ _ ?_ (fun hh=>?_)
         ·trivial
         clear hK K
         try simp only [Act.put,la_,lz_,ls_]
         refine rd_ [1,4] ?_
         refine AllReadyH.cons (o:=oGt1) rfl (fun K hK=>?_) ?_
         ·clear hh
          go_simp
          refine hK.out _ _ ?_ (fun hh=>?_)
          ·trivial
          clear hK K
          try simp only [Act.put,la_,lz_,ls_]
          refine rd_ [4] ?_
          refine AllReadyH.cons (o:=oGt4) rfl (fun K hK=>?_) ?_
          ·clear hh
           go_simp
           with_reducible refine (HNM.out _ ?_).mono ?_
           ·exact T7.out.gw.below
           rintro e8 w8 ⟨rfl,hw8⟩
           obtain rfl:w7=w8:=hw8.symm
           refine hK.out _ _ ?_ (fun hh=>?_)
           ·trivial
           clear hK K
           try simp only [Act.put,la_,lz_,ls_]
           refine rd_ [5] ?_
           refine AllReadyH.cons (o:=oGt5) rfl (fun K hK=>?_) ?_
           ·clear hh
            go_simp
            refine hK.out _ _ ?_ (fun hh=>?_)
            ·trivial
            clear hK K
            try simp only [Act.put,la_,lz_,ls_]
            exact h1_3_4_5 w7 _ ⟨T7.out,rfl⟩
           exact AllReadyH.nil
          exact AllReadyH.nil
         refine AllReadyH.cons (o:=oGt4) rfl (fun K hK=>?_) ?_
         ·clear hh
          go_simp
          with_reducible refine (HNM.out _ ?_).mono ?_
          ·exact T7.out.gw.below
          rintro e8 w8 ⟨rfl,hw8⟩
          obtain rfl:w7=w8:=hw8.symm
          refine hK.out _ _ ?_ (fun hh=>?_)
          ·trivial
          clear hK K
          try simp only [Act.put,la_,lz_,ls_]
          refine rd_ [1,5] ?_
          refine AllReadyH.cons (o:=oGt1) rfl (fun K hK=>?_) ?_
          ·clear hh
           go_simp
           refine hK.out _ _ ?_ (fun hh=>?_)
           ·trivial
           clear hK K
           try simp only [Act.put,la_,lz_,ls_]
           refine rd_ [5] ?_
           refine AllReadyH.cons (o:=oGt5) rfl (fun K hK=>?_) ?_
           ·clear hh
            go_simp
            refine hK.out _ _ ?_ (fun hh=>?_)
            ·trivial
            clear hK K
            try simp only [Act.put,la_,lz_,ls_]
            exact h1_3_4_5 w7 _ ⟨T7.out,rfl⟩
           exact AllReadyH.nil
          refine AllReadyH.cons (o:=oGt5) rfl (fun K hK=>?_) ?_
          ·clear hh
           go_simp
           refine hK.out _ _ ?_ (fun hh=>?_)
           ·trivial
           clear hK K
           try simp only [Act.put,la_,lz_,ls_]
           refine rd_ [1] ?_
           refine AllReadyH.cons (o:=oGt1) rfl (fun K hK=>?_) ?_
           ·clear hh
            go_simp
            refine hK.out _ _ ?_ (fun hh=>?_)
            ·trivial
            clear hK K
            try simp only [Act.put,la_,lz_,ls_]
            exact h1_3_4_5 w7 _ ⟨T7.out,rfl⟩
           exact AllReadyH.nil
          exact AllReadyH.nil
         exact AllReadyH.nil
        exact AllReadyH.nil
       case p1_3_4_5 =>
        intro w7 wx hMK
        obtain ⟨hT7,rfl⟩:=hMK
        have T7:=hd_ hT7
        clear hT7
        have k7:w7.cell? ⟨gc,5,none⟩=some (.slice C3.AI C3.ins.length C3.cI):=T7.out.gw.box.cell 5
        have k8:(w7.alloc (.cells #[.int .i64 (num2 l p5:Int)] 3)).cell? ⟨gc,5,none⟩=some (.slice C3.AI C3.ins.length C3.cI):=(T7.out.gw.box.alloc _).cell 5
        have hh:=True.intro
        refine rd_ [6] ?_
        refine AllReadyH.cons (o:=oGt6) rfl (fun K hK=>?_) ?_
        ·clear hh
         have T8:GS w (w7.alloc (.cells #[.int .i64 (num2 l p5:Int)] 3)) gc gl a e c (p5+2) C3:=T7.out.keep (bn_ _ _)
         have T8:=hd_ T8
         refine step_append_lies _ (by rfl) (.tmp 176) (.tmp 180) 25 (by rfl) (gc+1) 3 i0 (.int .i64 0) 1 8 Tryz.underlying25 HI0.out HZ0.out HZ1.out HZ2.out rfl (by decide) C3.AI' C3.ins.length (ints C3.ins) (by rfl) T8.out.gw.rI ⟨w7.heap.size,0,none⟩ 1 1 [.int .i64 (num2 l p5:Int)] (by rfl) rfl (new_cells w7 _ _) (by intro u hu;simp at hu;rcases hu with rfl;rfl) (by decide) (by unfold maxLen;omega) (by omega) (by have:=T8.out.gw.lt;omega) (w7.heap.size+1) (by simp) ?_
         intro g9 cap9 w9 hown9 hg9 hat9 hlt9
         have B9:=(T8.out.gw.grow hg9 (fun g e=>own_base T8.out.gw.rI e)).2.2
         have k9:w9.cell? ⟨gc,5,none⟩=some (.slice C3.AI C3.ins.length C3.cI):=B9.cell 5
         have f9:=B9.free 5
         refine hK.out _ _ ?_ (fun hh=>?_)
         ·trivial
         clear hK K
         try simp only [Act.put,la_,lz_,ls_]
         refine tk_ 7 oGt7 (v:=?_) ?_ ?_
         rotate_left
         ·intro w hSw;(try dsimp only at hSw);go_simp;(try with_reducible rfl)
         try simp only [Act.put,la_,lz_,ls_]
         refine rd_ [8] ?_
         refine AllReadyH.cons (o:=oGt8) rfl (fun K hK=>?_) ?_
         ·clear hh
          go_simp
          refine hK.out _ _ ?_ (fun hh=>?_)
          ·trivial
          clear hK K
          try simp only [Act.put,la_,lz_,ls_]
          refine wpAnyH_done (by kernel_rfl) ?_ _
          have T10:=T8.out.setI (t:=(num2 l p5:Int)) (by rw [show C3.AU'=.slice C3.AU C3.outs.length C3.cU from rfl,HIN3.out.2.2];rfl) hg9 rfl (by rw [ints_append];exact hown9)
          generalize w9.setCell ⟨gc,5,none⟩ (.slice (some ⟨g9,0,none⟩) (C3.ins.length+1) cap9)=w10 at T10 ⊢
          have T10:=hd_ T10
          clear T8 hg9 hown9 hat9 hlt9 T7 k7 k8 k9 f9 B9 k5 HNM HNX hh
          go_wp2_with fail
          go_roundw
          case rel =>
           refine ⟨q+1,{ C3 with AI:=some ⟨g9,0,none⟩,cI:=cap9,ins:=C3.ins++[(num2 l p5:Int)] },by omega,by go_num,HTRW.out,⟨?_,HIN3.out.2.1,HIN3.out.2.2⟩,by have h:=T10.out;have e3:p2+2*(q+1)=p5+2:=(by have:=HP5.out;omega);rw [e3];exact h⟩
           show C3.ins++[(num2 l p5:Int)]=_
           rw [numsAt_next,HP5.out,<- HIN3.out.1]
          case measure=>simp [intOf];omega
         exact AllReadyH.nil
        exact AllReadyH.nil
      ·obtain rfl:q=ni:=by omega
       have HIN2:Hid (C3.ins=decI l N):=hd_ (by
        rw [HIN3.out.1];unfold decI nI atP
        rw [HNI.out,HP2.out])
       have HOUT2:=hd_ HIN3.out.2.1
       obtain ⟨p3,hp3⟩:∃ p3,p5=p3:=⟨_,rfl⟩
       rw [hp3] at HS9
       have HP3:Hid (p2+2*q=p3):=hd_ (by rw [<- hp3];exact HP5.out)
       have hpb3:p3+2*nu<=e:=by have:=HP3.out;omega
       clear hp3 HIN3
       go_wp2_with fail
       go_loopw [185] (fun i wx=>∃ (q:Nat) (C:Cfg),q<=nu∧i=.int .i64 (q:Int)∧TRW C W H T l N∧(C.ins=decI l N∧C.outs=numsAt l p3 q)∧GS w wx gc gl a e c (p3+2*q) C) (fun i _=>nu-(intOf i).toNat)
       case atStart=>exact ⟨0,C3,by omega,rfl,HTRW.out,⟨HIN2.out,by rw [HOUT2.out];simp [numsAt]⟩,HS9.out⟩
       case round =>
        clear HS9 HTRW HIN2 HOUT2 HP5 C3
        obtain ⟨r,C3,hr,rfl,htr,hin3,hs⟩:=hrel
        have HTRW:=hd_ htr
        have HIN3:=hd_ hin3
        obtain ⟨p5,hp5⟩:∃ p5,p3+2*r=p5:=⟨_,rfl⟩
        rw [hp5] at hs
        have HP5:=hd_ hp5
        have HS9:=hd_ hs
        clear htr hin3 hs hp5
        by_cases hlt4:r<nu
        ·have hpe5:p5+2<=e:=by have:=HP5.out;omega
         have HNX:=hd_ (fun (W:World) (hB:Boxed W gl 44 (.slice (some (a.add p5)) (e-p5) (c-p5)))=>next2 gl a p5 e c hpe5 hec hmax W hB)
         have HNM:=hd_ (fun (W:World) (hW:Below w.heap.size w W)=>bnum2 W a n c l (HRD.out.later hW) HL.out (by omega) p5 (by omega) _ rfl)
         have k5:wr.cell? ⟨gc,6,none⟩=some (.slice C3.AU C3.outs.length C3.cU):=HS9.out.gw.box.cell 6
         have hgl2:gc≠gl:=by have:=HS9.out.hgl;omega
         have hil:C3.outs.length<=100000:=by rw [HIN3.out.2,numsAt_len];omega
         obtain ⟨i0,hi0,hz0,hz1,hz2⟩:=info_parts int_info
         have HI0:=hd_ hi0
         have HZ0:=hd_ hz0
         have HZ1:=hd_ hz1
         have HZ2:=hd_ hz2
         clear hi0 hz0 hz1 hz2
         go_wp2_with fail
         refine wp_region_held_drew (S:=(fun _=>True)) (by kernel_rfl) ?_ (fun hh=>?_)
         ·trivial
         show wpAnyH _ _ _ _ _ _ #[false,false,false,false,false,false,false,false,false] _ _
         refine' stage2 (M:=fun (w7:World) (wx:World)=>(fun wx=>GS w w7 gc gl a e c (p5+2) C3∧wx=w7.alloc (.cells #[.int .i64 (num2 l p5:Int)] 3)) wx) (fun h1_3_4_5=>?main) ?p1_3_4_5
         case main =>
          refine tk_ 0 oGt9 (v:=?_) ?_ ?_
          rotate_left
          ·intro w hSw;(try dsimp only at hSw);go_simp;(try with_reducible rfl)
          try simp only [Act.put,la_,lz_,ls_]
          refine tk_ 2 oGt11 (v:=?_) ?_ ?_
          rotate_left
          ·intro w hSw;(try dsimp only at hSw);go_simp;(try with_reducible rfl)
          try simp only [Act.put,la_,lz_,ls_]
          refine rd_ [1,3] ?_
          refine AllReadyH.cons (o:=oGt10) rfl (fun K hK=>?_) ?_
          ·skip
           go_simp
           refine hK.out _ _ ?_ (fun hh=>?_)
           ·trivial
           clear hK K
           try simp only [Act.put,la_,lz_,ls_]
           refine rd_ [3] ?_
           refine AllReadyH.cons (o:=oGt12) rfl (fun K hK=>?_) ?_
           ·clear hh
            go_simp
            with_reducible refine (HNX.out _ ?_).mono ?_
            ·exact (HS9.out.drewN 1).left
            rintro e7 w7 ⟨rfl,hw7⟩
            have T7:GS w w7 gc gl a e c (p5+2) C3:=by rw [hw7];exact (HS9.out.drewN 1).to (p5+2)
            have T7:=hd_ T7
            clear hw7
            have k7:w7.cell? ⟨gc,6,none⟩=some (.slice C3.AU C3.outs.length C3.cU):=T7.out.gw.box.cell 6
            have k8:(w7.alloc (.cells #[.int .i64 (num2 l p5:Int)] 3)).cell? ⟨gc,6,none⟩=some (.slice C3.AU C3.outs.length C3.cU):=(T7.out.gw.box.alloc _).cell 6
            refine hK.out _ _ ?_ (fun hh=>?_)
            ·trivial
            clear hK K
            try simp only [Act.put,la_,lz_,ls_]
            refine rd_ [4] ?_
            refine AllReadyH.cons (o:=oGt13) rfl (fun K hK=>?_) ?_
            ·clear hh
             go_simp
             with_reducible refine (HNM.out _ ?_).mono ?_
             ·exact T7.out.gw.below
             rintro e8 w8 ⟨rfl,hw8⟩
             obtain rfl:w7=w8:=hw8.symm
             refine hK.out _ _ ?_ (fun hh=>?_)
             ·trivial
             clear hK K
             try simp only [Act.put,la_,lz_,ls_]
             refine rd_ [5] ?_
             refine AllReadyH.cons (o:=oGt14) rfl (fun K hK=>?_) ?_
             ·clear hh
              go_simp
              refine hK.out _ _ ?_ (fun hh=>?_)
              ·trivial
              clear hK K
              try simp only [Act.put,la_,lz_,ls_]
              exact h1_3_4_5 w7 _ ⟨T7.out,rfl⟩
             exact AllReadyH.nil
            exact AllReadyH.nil
           exact AllReadyH.nil
          refine AllReadyH.cons (o:=oGt12) rfl (fun K hK=>?_) ?_
          ·skip
           go_simp
           with_reducible refine (HNX.out _ ?_).mono ?_
           ·exact (HS9.out.drewN 1).left
           rintro e7 w7 ⟨rfl,hw7⟩
           have T7:GS w w7 gc gl a e c (p5+2) C3:=by rw [hw7];exact (HS9.out.drewN 1).to (p5+2)
           have T7:=hd_ T7
           clear hw7
           have k7:w7.cell? ⟨gc,6,none⟩=some (.slice C3.AU C3.outs.length C3.cU):=T7.out.gw.box.cell 6
           have k8:(w7.alloc (.cells #[.int .i64 (num2 l p5:Int)] 3)).cell? ⟨gc,6,none⟩=some (.slice C3.AU C3.outs.length C3.cU):=(T7.out.gw.box.alloc _).cell 6
           refine hK.out _ _ ?_ (fun hh=>?_)
           ·trivial
           clear hK K
           try simp only [Act.put,la_,lz_,ls_]
           refine rd_ [1,4] ?_
           refine AllReadyH.cons (o:=oGt10) rfl (fun K hK=>?_) ?_
           ·clear hh
            go_simp
            refine hK.out _ _ ?_ (fun hh=>?_)
            ·trivial
            clear hK K
            try simp only [Act.put,la_,lz_,ls_]
            refine rd_ [4] ?_
            refine AllReadyH.cons (o:=oGt13) rfl (fun K hK=>?_) ?_
            ·clear hh
             go_simp
             with_reducible refine (HNM.out _ ?_).mono ?_
             ·exact T7.out.gw.below
             rintro e8 w8 ⟨rfl,hw8⟩
             obtain rfl:w7=w8:=hw8.symm
             refine hK.out _ _ ?_ (fun hh=>?_)
             ·trivial
             clear hK K
             try simp only [Act.put,la_,lz_,ls_]
             refine rd_ [5] ?_
             refine AllReadyH.cons (o:=oGt14) rfl (fun K hK=>?_) ?_
             ·clear hh
              go_simp
              refine hK.out _ _ ?_ (fun hh=>?_)
              ·trivial
              clear hK K
              try simp only [Act.put,la_,lz_,ls_]
              exact h1_3_4_5 w7 _ ⟨T7.out,rfl⟩
             exact AllReadyH.nil
            exact AllReadyH.nil
           refine AllReadyH.cons (o:=oGt13) rfl (fun K hK=>?_) ?_
           ·clear hh
            go_simp
            with_reducible refine (HNM.out _ ?_).mono ?_
            ·exact T7.out.gw.below
            rintro e8 w8 ⟨rfl,hw8⟩
            obtain rfl:w7=w8:=hw8.symm
            refine hK.out _ _ ?_ (fun hh=>?_)
            ·trivial
            clear hK K
            try simp only [Act.put,la_,lz_,ls_]
            refine rd_ [1,5] ?_
            refine AllReadyH.cons (o:=oGt10) rfl (fun K hK=>?_) ?_
            ·clear hh
             go_simp
             refine hK.out _ _ ?_ (fun hh=>?_)
             ·trivial
             clear hK K
             try simp only [Act.put,la_,lz_,ls_]
             refine rd_ [5] ?_
             refine AllReadyH.cons (o:=oGt14) rfl (fun K hK=>?_) ?_
             ·clear hh
              go_simp
              refine hK.out _ _ ?_ (fun hh=>?_)
              ·trivial
              clear hK K
              try simp only [Act.put,la_,lz_,ls_]
              exact h1_3_4_5 w7 _ ⟨T7.out,rfl⟩
             exact AllReadyH.nil
            refine AllReadyH.cons (o:=oGt14) rfl (fun K hK=>?_) ?_
            ·clear hh
             go_simp
             refine hK.out _ _ ?_ (fun hh=>?_)
             ·trivial
             clear hK K
             try simp only [Act.put,la_,lz_,ls_]
             refine rd_ [1] ?_
             refine AllReadyH.cons (o:=oGt10) rfl (fun K hK=>?_) ?_
             ·clear hh
              go_simp
              refine hK.out _ _ ?_ (fun hh=>?_)
              ·trivial
              clear hK K
              try simp only [Act.put,la_,lz_,ls_]
              exact h1_3_4_5 w7 _ ⟨T7.out,rfl⟩
             exact AllReadyH.nil
            exact AllReadyH.nil
           exact AllReadyH.nil
          exact AllReadyH.nil
         case p1_3_4_5 =>
          intro w7 wx hMK
          obtain ⟨hT7,rfl⟩:=hMK
          have T7:=hd_ hT7
          clear hT7
          have k7:w7.cell? ⟨gc,6,none⟩=some (.slice C3.AU C3.outs.length C3.cU):=T7.out.gw.box.cell 6
          have k8:(w7.alloc (.cells #[.int .i64 (num2 l p5:Int)] 3)).cell? ⟨gc,6,none⟩=some (.slice C3.AU C3.outs.length C3.cU):=(T7.out.gw.box.alloc _).cell 6
          have hh:=True.intro
          refine rd_ [6] ?_
          refine AllReadyH.cons (o:=oGt15) rfl (fun K hK=>?_) ?_
          ·clear hh
           have T8:GS w (w7.alloc (.cells #[.int .i64 (num2 l p5:Int)] 3)) gc gl a e c (p5+2) C3:=T7.out.keep (bn_ _ _)
           have T8:=hd_ T8
           refine step_append_lies _ (by rfl) (.tmp 188) (.tmp 192) 25 (by rfl) (gc+1) 3 i0 (.int .i64 0) 1 8 Tryz.underlying25 HI0.out HZ0.out HZ1.out HZ2.out rfl (by decide) C3.AU' C3.outs.length (ints C3.outs) (by rfl) T8.out.gw.rU ⟨w7.heap.size,0,none⟩ 1 1 [.int .i64 (num2 l p5:Int)] (by rfl) rfl (new_cells w7 _ _) (by intro u hu;simp at hu;rcases hu with rfl;rfl) (by decide) (by unfold maxLen;omega) (by omega) (by have:=T8.out.gw.lt;omega) (w7.heap.size+1) (by simp) ?_
           intro g9 cap9 w9 hown9 hg9 hat9 hlt9
           have B9:=(T8.out.gw.grow hg9 (fun g e=>own_base T8.out.gw.rU e)).2.2
           have k9:w9.cell? ⟨gc,6,none⟩=some (.slice C3.AU C3.outs.length C3.cU):=B9.cell 6
           have f9:=B9.free 6
           refine hK.out _ _ ?_ (fun hh=>?_)
           ·trivial
           clear hK K
           try simp only [Act.put,la_,lz_,ls_]
           refine tk_ 7 oGt16 (v:=?_) ?_ ?_
           rotate_left
           ·intro w hSw;(try dsimp only at hSw);go_simp;(try with_reducible rfl)
           try simp only [Act.put,la_,lz_,ls_]
           refine rd_ [8] ?_
           refine AllReadyH.cons (o:=oGt17) rfl (fun K hK=>?_) ?_
           ·clear hh
            go_simp
            refine hK.out _ _ ?_ (fun hh=>?_)
            ·trivial
            clear hK K
            try simp only [Act.put,la_,lz_,ls_]
            refine wpAnyH_done (by kernel_rfl) ?_ _
            have T10:=T8.out.setU (A:=some ⟨g9,0,none⟩) (d:=cap9) (n:=C3.outs.length+1) (t:=(num2 l p5:Int)) hg9 (by
             rcases hat9 with h|h
             ·exact .inl (by rw [h];rfl)
             ·exact .inr (fun g' e'=>by simp [Value.ownBlock] at e';have:=T8.out.gw.lt;simp;omega)) rfl (by rw [ints_append];exact hown9)
            generalize w9.setCell ⟨gc,6,none⟩ (.slice (some ⟨g9,0,none⟩) (C3.outs.length+1) cap9)=w10 at T10 ⊢
            have T10:=hd_ T10
            clear T8 hg9 hown9 hat9 hlt9 T7 k7 k8 k9 f9 B9 k5 HNM HNX hh
            go_wp2_with fail
            go_roundw
            case rel =>
             refine ⟨r+1,{ C3 with AU:=some ⟨g9,0,none⟩,cU:=cap9,outs:=C3.outs++[(num2 l p5:Int)] },by omega,by go_num,HTRW.out,⟨HIN3.out.1,?_⟩,by have h:=T10.out;have e3:p3+2*(r+1)=p5+2:=(by have:=HP5.out;omega);rw [e3];exact h⟩
             show C3.outs++[(num2 l p5:Int)]=_
             rw [numsAt_next,HP5.out,<- HIN3.out.2]
            case measure=>simp [intOf];omega
           exact AllReadyH.nil
          exact AllReadyH.nil
        ·obtain rfl:r=nu:=by omega
         have hou:C3.outs=decU l N:=by
          rw [HIN3.out.2];unfold decU nU
          have e1:atP l N+2*nI l=p3:=by unfold atP nI;rw [HP2.out,HNI.out];exact HP3.out
          rw [e1,HNU.out]
         have TOLD:Told l C3:=by
          obtain ⟨h1,h2,h3,h4,h5⟩:=HTRW.out
          exact ⟨by rw [h1,HW.out],by rw [h2,HH.out],by rw [h3,HT.out],h4,by rw [h5,HN.out],by rw [HIN3.out.1,HN.out],by rw [hou,HN.out]⟩
         have TOLD:=hd_ TOLD
         clear hou
         have hfw:C3.few:=by
          obtain ⟨h1,h2,h3,h4,h5⟩:=HTRW.out
          unfold Cfg.few
          rw [h4,h5,HIN3.out.1,HIN3.out.2]
          simp only [decT,decO,decI,tilesAt_len,bitsAt_len,numsAt_len]
          rw [HNT.out,show nI l=q from HNI.out]
          omega
         have hE:=getE_of (l:=l) (by rw [HLN.out];omega) HM.out (by rw [HW.out,HH.out,HT.out];exact HOK.out) (by rw [HLN.out];exact HZ.out) HS.out
         have hod:(oddT l 11 (nT l)||oddS l (atS l) (gN l))=odf:=by
          rw [HOD0.out,HN.out,<- HODF.out]
          unfold atS
          rw [HNT.out,HPP.out]
         rw [hod] at hE
         have HE:=hd_ hE
         clear hE hod
         cases odf with
         | true =>
          obtain ⟨k0,k1,k2,k3,k4,k5,k6⟩:=GW.cells HS9.out.gw
          obtain ⟨r0,r1,r2,r3,r4,r5,r6⟩:=GW.zeros HS9.out.gw
          obtain ⟨s0,s1,s2,s3,s4,s5,s6⟩:=free_cells HS9.out.gw.res
          have he:getE l=310:=by rw [HE.out,if_pos rfl]
          have HE3:=hd_ he
          clear he
          go_wp2_with fail
          rw [<- HR.out]
          exact get_err rfl l w wr _ 310 HS9.out.gw.below HS9.out.gw.res HE3.out (by decide) rfl rfl
         | false =>
          by_cases hok:C3.ok
          ·have he:getE l=0:=by rw [HE.out,if_neg (by simp),if_neg (by rw [<- TOLD.out.ok];exact fun h=>h hok)]
           have HE3:=hd_ he
           have hb9:=bcheck_any C3 wr HS9.out.gw.in_ hfw
           unfold BCH at hb9
           rw [show C3.E=0 from if_pos hok] at hb9
           have HB9:=hd_ hb9
           obtain ⟨k0,k1,k2,k3,k4,k5,k6⟩:=GW.cells HS9.out.gw
           clear he hb9 hok
           go_wp2_with fail
           refine HB9.out.mono ?_
           rintro e8 w8 ⟨rfl,hb8⟩
           have G8:=hd_ (HS9.out.gw.keep hb8)
           clear k0 k1 k2 k3 k4 k5 k6 hb8 HB9
           obtain ⟨k0,k1,k2,k3,k4,k5,k6⟩:=GW.cells G8.out
           obtain ⟨r0,r1,r2,r3,r4,r5,r6⟩:=GW.zeros G8.out
           obtain ⟨s0,s1,s2,s3,s4,s5,s6⟩:=free_cells G8.out.res
           go_wp2_with fail
           rw [<- HR.out]
           exact get_yes rfl l w w8 _ gc C3 G8.out HE3.out TOLD.out rfl rfl
          ·have he:getE l=310:=by rw [HE.out,if_neg (by simp),if_pos (by rw [<- TOLD.out.ok];exact hok)]
           have HE3:=hd_ he
           have hb9:=bcheck_any C3 wr HS9.out.gw.in_ hfw
           unfold BCH at hb9
           rw [show C3.E=1 from if_neg hok] at hb9
           have HB9:=hd_ hb9
           obtain ⟨k0,k1,k2,k3,k4,k5,k6⟩:=GW.cells HS9.out.gw
           clear he hb9 hok
           go_wp2_with fail
           refine HB9.out.mono ?_
           rintro e8 w8 ⟨rfl,hb8⟩
           have G8:=hd_ (HS9.out.gw.keep hb8)
           clear k0 k1 k2 k3 k4 k5 k6 hb8 HB9
           obtain ⟨k0,k1,k2,k3,k4,k5,k6⟩:=GW.cells G8.out
           obtain ⟨r0,r1,r2,r3,r4,r5,r6⟩:=GW.zeros G8.out
           obtain ⟨s0,s1,s2,s3,s4,s5,s6⟩:=free_cells G8.out.res
           go_wp2_with fail
           rw [<- HR.out]
           exact get_err rfl l w w8 _ 310 G8.out.below G8.out.res HE3.out (by decide) rfl rfl
end Go.Proofs.YtmkiphadkmodnaaGreat
