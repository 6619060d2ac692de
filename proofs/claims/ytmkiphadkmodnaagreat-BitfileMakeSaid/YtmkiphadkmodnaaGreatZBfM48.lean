/- BfM, 48 -/
import Derived.Test.YtmkiphadkmodnaaGreatZBfM47
import Derived.Test.YtmkiphadkmodnaaGreatZBfM0
set_option linter.all false
set_option maxRecDepth 100000
set_option maxHeartbeats 8000000
namespace Go.Proofs.YtmkiphadkmodnaaGreat
open Go.RowKit Go.Maps
abbrev oMk0:Oper:=⟨some 50,.load 23 (.tmp 4),23,"bitfile.go:70",#[],none⟩
abbrev oMk1:Oper:=⟨some 51,.fieldAddr 23 (.tmp 4) 0,0,"bitfile.go:70",#[],none⟩
abbrev oMk2:Oper:=⟨some 52,.load 3 (.tmp 51),3,"bitfile.go:70",#[⟨1,.data⟩],none⟩
abbrev oMk3:Oper:=⟨some 53,.fieldAddr 23 (.tmp 4) 1,0,"bitfile.go:70",#[],none⟩
abbrev oMk4:Oper:=⟨some 54,.load 3 (.tmp 53),3,"bitfile.go:70",#[⟨3,.data⟩],none⟩
abbrev oMk5:Oper:=⟨some 55,.binOp BinOp.mul 3 (.tmp 52) (.tmp 54) 3,3,"bitfile.go:70",#[⟨2,.data⟩,⟨4,.data⟩],none⟩
abbrev oMk6:Oper:=⟨some 56,.makeSlice 34 (.tmp 55) (.tmp 55),34,"bitfile.go:70",#[⟨5,.data⟩,⟨5,.data⟩],none⟩
abbrev oMk7:Oper:=⟨some 57,.move (.tmp 13),57,"bitfile.go:70",#[],none⟩
abbrev oMk8:Oper:=⟨some 58,.call { callee:=.builtin Builtin.len,args:=#[.tmp 57],argTypes:=#[57] },3,"bitfile.go:70",#[⟨7,.data⟩],none⟩
abbrev oMk9:Oper:=⟨some 59,.makeSlice 35 (.tmp 58) (.tmp 58),35,"bitfile.go:70",#[⟨8,.data⟩,⟨8,.data⟩],none⟩
abbrev oMk10:Oper:=⟨some 60,.fieldAddr 29 (.tmp 6) 1,0,"bitfile.go:70",#[],none⟩
abbrev oMk11:Oper:=⟨some 61,.load 25 (.tmp 60),25,"bitfile.go:70",#[⟨10,.data⟩],none⟩
abbrev oMk12:Oper:=⟨some 62,.call { callee:=.value (.func 21),args:=#[.tmp 61],argTypes:=#[25] },25,"bitfile.go:70",#[⟨11,.data⟩],none⟩
abbrev oMk13:Oper:=⟨some 63,.fieldAddr 29 (.tmp 6) 2,0,"bitfile.go:70",#[],none⟩
abbrev oMk14:Oper:=⟨some 64,.load 25 (.tmp 63),25,"bitfile.go:70",#[⟨13,.data⟩],none⟩
abbrev oMk15:Oper:=⟨some 65,.call { callee:=.value (.func 21),args:=#[.tmp 64],argTypes:=#[25] },25,"bitfile.go:70",#[⟨14,.data⟩,⟨12,.chain⟩],none⟩
abbrev oMk16:Oper:=⟨some 66,.build 37 #[(0,.tmp 50),(1,.tmp 56),(2,.tmp 59),(3,.tmp 62),(4,.tmp 65)],37,"bitfile.go:70",#[⟨0,.data⟩,⟨6,.data⟩,⟨9,.data⟩,⟨12,.data⟩,⟨15,.data⟩],none⟩
abbrev oMk17:Oper:=⟨some 15,.alloc 37,0,"bitfile.go:70",#[],none⟩
abbrev oMk18:Oper:=⟨none,.store 37 (.tmp 15) (.tmp 66),0,"bitfile.go:70",#[⟨17,.data⟩,⟨16,.data⟩,⟨15,.chain⟩,⟨0,.phase⟩,⟨1,.phase⟩,⟨2,.phase⟩,⟨3,.phase⟩,⟨4,.phase⟩,⟨5,.phase⟩,⟨6,.phase⟩,⟨7,.phase⟩,⟨8,.phase⟩,⟨9,.phase⟩,⟨10,.phase⟩,⟨11,.phase⟩,⟨12,.phase⟩,⟨13,.phase⟩,⟨14,.phase⟩,⟨15,.phase⟩,⟨16,.phase⟩,⟨17,.phase⟩],none⟩
abbrev oMk19:Oper:=⟨some 75,.fieldAddr 37 (.tmp 15) 1,0,"bitfile.go:72",#[],none⟩
abbrev oMk20:Oper:=⟨some 76,.load 34 (.tmp 75),34,"bitfile.go:72",#[⟨0,.data⟩],none⟩
abbrev oMk21:Oper:=⟨some 77,.fieldAddr 29 (.tmp 6) 0,0,"bitfile.go:72",#[],none⟩
abbrev oMk22:Oper:=⟨some 78,.load 25 (.tmp 77),25,"bitfile.go:72",#[⟨2,.data⟩],none⟩
abbrev oMk23:Oper:=⟨some 79,.move (.tmp 16),3,"bitfile.go:72",#[],none⟩
abbrev oMk24:Oper:=⟨some 80,.indexAddr 25 (.tmp 78) (.tmp 79),0,"bitfile.go:72",#[⟨3,.data⟩,⟨4,.data⟩],none⟩
abbrev oMk25:Oper:=⟨some 81,.load 3 (.tmp 80),3,"bitfile.go:72",#[⟨5,.data⟩],none⟩
abbrev oMk26:Oper:=⟨some 82,.load 62 (.tmp 17),62,"bitfile.go:72",#[],none⟩
abbrev oMk27:Oper:=⟨some 83,.call { callee:=.value (.func 22),args:=#[.tmp 82],argTypes:=#[62] },3,"bitfile.go:72",#[⟨7,.data⟩],none⟩
abbrev oMk28:Oper:=⟨some 84,.fieldAddr 62 (.tmp 17) 2,0,"bitfile.go:72",#[],none⟩
abbrev oMk29:Oper:=⟨some 85,.load 4 (.tmp 84),4,"bitfile.go:72",#[⟨9,.data⟩],none⟩
abbrev oMk30:Oper:=⟨some 86,.fieldAddr 62 (.tmp 17) 3,0,"bitfile.go:72",#[],none⟩
abbrev oMk31:Oper:=⟨some 87,.load 4 (.tmp 86),4,"bitfile.go:72",#[⟨11,.data⟩],none⟩
abbrev oMk32:Oper:=⟨some 88,.build 65 #[(0,.tmp 83),(1,.tmp 85),(2,.tmp 87)],65,"bitfile.go:72",#[⟨8,.data⟩,⟨10,.data⟩,⟨12,.data⟩],none⟩
abbrev oMk33:Oper:=⟨some 89,.indexAddr 34 (.tmp 76) (.tmp 81),0,"bitfile.go:72",#[⟨1,.data⟩,⟨6,.data⟩,⟨0,.phase⟩,⟨1,.phase⟩,⟨2,.phase⟩,⟨3,.phase⟩,⟨4,.phase⟩,⟨5,.phase⟩,⟨6,.phase⟩,⟨7,.phase⟩,⟨8,.phase⟩,⟨9,.phase⟩,⟨10,.phase⟩,⟨11,.phase⟩,⟨12,.phase⟩,⟨13,.phase⟩],none⟩
abbrev oMk34:Oper:=⟨none,.store 65 (.tmp 89) (.tmp 88),0,"bitfile.go:72",#[⟨14,.data⟩,⟨13,.data⟩,⟨8,.chain⟩,⟨0,.phase⟩,⟨1,.phase⟩,⟨2,.phase⟩,⟨3,.phase⟩,⟨4,.phase⟩,⟨5,.phase⟩,⟨6,.phase⟩,⟨7,.phase⟩,⟨8,.phase⟩,⟨9,.phase⟩,⟨10,.phase⟩,⟨11,.phase⟩,⟨12,.phase⟩,⟨13,.phase⟩],none⟩
theorem bmake_any (W H T:Int) (P:PK) (S:SPT) (B:Option Addr) (cB:Nat) (ls:List SL) (w:World) (hin:P.In w) (hf:P.fit) (hpo:P.outs.length<=10000) (hsi:S.In w) (hsf:S.fit) (hls:SLs w B cB ls) (hlb:∀ x ∈ ls,x.2.2.length<=100000) (hl5:ls.length<=100000) (hsum:wSum (wayl ls)<=1000000) :
  Calls Tryz.prog 7 #[.agg #[.int .i64 W,.int .i64 H,.int .i64 T],.agg #[.int .i64 P.I,.slice P.AB P.bs.length P.cB,.slice P.AO P.outs.length P.cO],.agg #[.slice S.AB S.sb.length S.cB,.slice S.AI S.si.length S.cI,.slice S.AO S.so.length S.cO],.slice B ls.length cB] w (MkOut W H T P S (wayl ls) w):=by
 have M0:=hd_ (Mk0.start w W H T P.I P.AB P.AO S.AB S.AI S.AO P.bs.length P.cB P.outs.length P.cO S.sb.length S.cB S.si.length S.cI S.so.length S.cO)
 have HI:=hd_ hin
 have HF:=hd_ hf
 have HSI:=hd_ hsi
 have HSF:=hd_ hsf
 have HLS:=hd_ hls
 have HLB:=hd_ hlb
 have HSUM:=hd_ hsum
 obtain ⟨RR,hRR⟩:∃ RR:Ending->World->Prop,MkOut W H T P S (wayl ls) w=RR:=⟨_,rfl⟩
 have HRR:=hd_ hRR
 rw [hRR]
 have HPL:=hd_ (fun (W':World) (hW:Below w.heap.size w W')=>pplace_any W H T P S W' (hin.later hW) hf (hsi.later hW) hsf)
 have HWI:=hd_ (fun (W':World) (hW:Below w.heap.size w W')=>pwires_any W H T P S W' (hin.later hW) hf (hsi.later hW) hsf)
 have HCI:=hd_ (fun (W':World) (hW:Below w.heap.size w W')=>clone_ints W' S.AI S.si.length S.cI S.si (hsi.later hW).i (by have:=hsf.i;omega))
 have HCO:=hd_ (fun (W':World) (hW:Below w.heap.size w W')=>clone_ints W' S.AO S.so.length S.cO S.so (hsi.later hW).o (by have:=hsf.o;omega))
 have HPO:=hd_ hpo
 obtain ⟨nb,hnb⟩:∃ n,S.sb.length=n:=⟨_,rfl⟩
 obtain ⟨ni,hni⟩:∃ n,S.si.length=n:=⟨_,rfl⟩
 obtain ⟨no,hno⟩:∃ n,S.so.length=n:=⟨_,rfl⟩
 obtain ⟨pb,hpb⟩:∃ n,P.bs.length=n:=⟨_,rfl⟩
 obtain ⟨po,hpo'⟩:∃ n,P.outs.length=n:=⟨_,rfl⟩
 obtain ⟨pI,hpI⟩:∃ n,P.I=n:=⟨_,rfl⟩
 obtain ⟨pAB,hpAB⟩:∃ n,P.AB=n:=⟨_,rfl⟩
 obtain ⟨m,hm⟩:∃ n,ls.length=n:=⟨_,rfl⟩
 have hf1:=hsf.b
 have hf2:=hsf.i
 have hf3:=hsf.o
 simp only [hnb,hni,hno,hpb,hpo',hpI,hpAB,hm] at M0 HPL HWI HCI HCO hf1 hf2 hf3 hl5 ⊢
 have HNB:=hd_ hnb
 have HNI:=hd_ hni
 have HNO:=hd_ hno
 have HPB:=hd_ hpb
 have HPOL:=hd_ hpo'
 have HPI:=hd_ hpI
 have HPAB:=hd_ hpAB
 have HM:=hd_ hm
 clear hnb hni hno hpb hpo' hpI hpAB hm hin hf hsi hsf hls hlb hRR hsum hpo
 go_enter Tryz.func7,Tryz.ntmps7
 go_upto_region 1 with (fail)
 generalize (((w.alloc (.cells #[.int .i64 W,.int .i64 H,.int .i64 T] 23)).alloc (.cells #[.int .i64 pI,.slice pAB pb P.cB,.slice P.AO po P.cO] 27)).alloc (.cells #[.slice S.AB nb S.cB,.slice S.AI ni S.cI,.slice S.AO no S.cO] 29)).alloc (.cells #[.int .i64 0,.int .i64 0,.int .i64 0,.slice none 0 0,.slice none 0 0,.slice none 0 0,.slice none 0 0] 37)=w1 at M0 ⊢
 have a0:=M0.out.a.cell 0
 have a1:=M0.out.a.cell 1
 have a2:=M0.out.a.cell 2
 have b0:=M0.out.p.cell 0
 have b1:=M0.out.p.cell 1
 have b2:=M0.out.p.cell 2
 have c0:=M0.out.s.cell 0
 have c1:=M0.out.s.cell 1
 have c2:=M0.out.s.cell 2
 have HC:=hd_ (HPL.out _ M0.out.q)
 go_wp2_with fail
 refine HC.out.mono ?_
 rintro e w2 ⟨x,rfl,hx,hb⟩
 have M2:=hd_ (M0.out.keep hb)
 have HX:=hd_ hx
 clear hb hx HC a0 a1 a2 b0 b1 b2 c0 c1 c2 M0 HPL
 by_cases hx0:x=0
 case neg =>
  have hne:(x != 0)=true:=by rw [bne_iff_ne];exact hx0
  have HNE:=hd_ hx0
  obtain ⟨⟨z0,z1,z2,z3,z4,z5,z6⟩,s0,s1,s2,s3,s4,s5,s6⟩:=cells7 M2.out.r
  clear hx0
  go_wp2_with fail
  rw [<- HRR.out]
  exact mk_end rfl cfgN x _ M2.out.r M2.out.q (by omega) (fun W' _=>cfgN_in W') (.inl ⟨HNE.out,rfl,.inl HX.out⟩) rfl rfl
 subst hx0
 have a0:=M2.out.a.cell 0
 have a1:=M2.out.a.cell 1
 have a2:=M2.out.a.cell 2
 have b0:=M2.out.p.cell 0
 have b1:=M2.out.p.cell 1
 have b2:=M2.out.p.cell 2
 have c0:=M2.out.s.cell 0
 have c1:=M2.out.s.cell 1
 have c2:=M2.out.s.cell 2
 have HC:=hd_ (HWI.out _ M2.out.q)
 go_wp2_with fail
 refine HC.out.mono ?_
 clear HC a0 a1 a2 b0 b1 b2 c0 c1 c2
 rintro e w3 (⟨y,rfl,hy0,hP,hb⟩|⟨-,A,c,ws,rfl,hb,hwi,hwp⟩)
 ·exact absurd (hP.one HX.out) hy0
 have M3:=hd_ (M2.out.keep hb)
 have HWIN:=hd_ hwi
 have HWPL:=hd_ hwp
 obtain ⟨hok,hck,hsp⟩:=PlcR.ok HX.out
 have HOK:=hd_ hok
 have HMAY:=hd_ (ChkR.may hck)
 have HSP:=hd_ hsp
 have HCK:=hd_ (pcheck30_any W H T A B c cB ws ls w3 hwi (wires_fit HMAY.out HPO.out hwp) (HLS.out.later M3.out.q) HLB.out (by rw [HM.out];exact hl5) HSUM.out)
 rw [hwp,HM.out] at HCK
 clear hb hwi hwp hok hck hsp M2 HWI
 obtain ⟨d,hd⟩:∃ d,chk30 W H T (wiresP W H T P S) (wayl ls)=d:=⟨_,rfl⟩
 rw [hd] at HCK
 have HD:=hd_ hd
 clear hd
 have a0:=M3.out.a.cell 0
 have a1:=M3.out.a.cell 1
 have a2:=M3.out.a.cell 2
 go_wp2_with fail
 refine HCK.out.mono ?_
 rintro e w4 ⟨rfl,hb⟩
 have M4:=hd_ (M3.out.keep hb)
 clear hb HCK a0 a1 a2 M3 HWIN HWPL
 by_cases hd0:d=0
 case neg =>
  have hne:(d != 0)=true:=by rw [bne_iff_ne];exact hd0
  have HNE:=hd_ hd0
  obtain ⟨⟨z0,z1,z2,z3,z4,z5,z6⟩,s0,s1,s2,s3,s4,s5,s6⟩:=cells7 M4.out.r
  clear hd0
  go_wp2_with fail
  rw [<- HRR.out]
  exact mk_end rfl cfgN d _ M4.out.r M4.out.q (by omega) (fun W' _=>cfgN_in W') (.inl ⟨HNE.out,rfl,.inr ⟨HX.out,HD.out⟩⟩) rfl rfl
 subst hd0
 have a0:=M4.out.a.cell 0
 have a1:=M4.out.a.cell 1
 have a2:=M4.out.a.cell 2
 have HE:=hd_ (edges_yes W H T w4 HOK.out)
 have hlen:(edgesL W H T).length<=6000000:=by have:=rawL_len HOK.out;unfold edgesL;rw [sortP_length];exact this
 have HRISE:=hd_ (chk30_rise HD.out)
 go_wp2_with fail
 refine HE.out.mono ?_
 rintro e w5 ⟨v,rfl,hb5,how5⟩
 obtain ⟨ne,hne⟩:∃ ne,(edgesL W H T).length=ne:=⟨_,rfl⟩
 have HNE:=hd_ hne
 rw [hne] at how5 hlen HRISE
 obtain ⟨AE,cE,rfl⟩:=own_slice how5
 have M5:=hd_ (M4.out.keep hb5)
 have h1:=HOK.out
 unfold okA at h1
 obtain ⟨nt,hnt⟩:∃ nt:Nat,W*H=(nt:Int):=⟨(W*H).toNat,by have:=Int.mul_nonneg (show 0<=W by omega) (show 0<=H by omega);omega⟩
 have hnt5:nt<=256:=by have:=Int.mul_le_mul (show W<=16 by omega) (show H<=16 by omega) (by omega) (by omega);omega
 have HNT:=hd_ hnt
 clear HE hb5 how5 hne a0 a1 a2 M4 h1
 have hWH:IntKind.i64.wrap (W*H)=(nt:Int):=by rw [hnt];exact IntWalk.i64_in _ (by omega)
 clear hnt
 have HCI5:=hd_ (show ∀ W':World,Below w5.heap.size w5 W'->Calls Tryz.prog 21 #[.slice S.AI ni S.cI] W' (ClonedI ni S.si W') from fun W' hW=>HCI.out _ (bt_ M5.out.q hW))
 have HCO5:=hd_ (show ∀ W':World,Below w5.heap.size w5 W'->Calls Tryz.prog 21 #[.slice S.AO no S.cO] W' (ClonedI no S.so W') from fun W' hW=>HCO.out _ (bt_ M5.out.q hW))
 go_upto_region 10 with (fail)
 go_cut [15] (fun v15 wx=>∃ (gc g1 g2:Nat) (A3 A4:Option Addr) (c3 c4:Nat),v15=.pointer (some ⟨gc,0,none⟩)∧MkC w5 W H T gc g1 g2 A3 A4 c3 c4 nt ne ni no (List.replicate nt (0,false,false)) (List.replicate ne false) S.si S.so wx)
 case first =>
  have HSS:=hd_ (show ∀ W':World,Below w5.heap.size w5 W'->(W'.cell? ⟨w.heap.size,0,none⟩=some (.int .i64 W)∧W'.cell? ⟨w.heap.size,1,none⟩=some (.int .i64 H)∧W'.cell? ⟨w.heap.size,2,none⟩=some (.int .i64 T)∧W'.cell? ⟨w.heap.size+1+1,1,none⟩=some (.slice S.AI ni S.cI)∧W'.cell? ⟨w.heap.size+1+1,2,none⟩=some (.slice S.AO no S.cO)) from fun W' hW =>
   ⟨(M5.out.a.keep hW).cell 0,(M5.out.a.keep hW).cell 1,(M5.out.a.keep hW).cell 2,(M5.out.s.keep hW).cell 1,(M5.out.s.keep hW).cell 2⟩)
  have MK:=hd_ (MkS.start w5 W H T nt ne ni no S.si S.so)
  refine wp_region_held_drew (S:=(fun w'=>w'.cell? ⟨w.heap.size,0,none⟩=some (.int .i64 W)∧w'.cell? ⟨w.heap.size,1,none⟩=some (.int .i64 H)∧w'.cell? ⟨w.heap.size,2,none⟩=some (.int .i64 T)∧w'.cell? ⟨w.heap.size+1+1,1,none⟩=some (.slice S.AI ni S.cI)∧w'.cell? ⟨w.heap.size+1+1,2,none⟩=some (.slice S.AO no S.cO))) (by kernel_rfl) ?_ (fun hh=>?_)
  ·exact HSS.out _ MK.out.bel
  show wpAnyH _ _ _ _ _ _ #[false,false,false,false,false,false,false,false,false,false,false,false,false,false,false,false,false,false,false] _ _
  generalize w5.drew=wd at MK hh ⊢
  refine' stage8 (M:=fun (g6:Nat) (g9:Nat) (A12:Option Addr) (c12:Nat) (A15:Option Addr) (c15:Nat) (g17:Nat) (wx:World)=>MkS w5 W H T nt ne ni no S.si S.so (some g6) (some g9) (some g17) (some (A12,c12)) (some (A15,c15)) wx) (fun h6_9_12_15_17=>?q6_9_12_15_17) ?p6_9_12_15_17
  case' q6_9_12_15_17 =>
   refine' stage7 (M:=fun (g9:Nat) (A12:Option Addr) (c12:Nat) (A15:Option Addr) (c15:Nat) (g17:Nat) (wx:World)=>MkS w5 W H T nt ne ni no S.si S.so none (some g9) (some g17) (some (A12,c12)) (some (A15,c15)) wx) (fun h9_12_15_17=>?q9_12_15_17) ?p9_12_15_17
  case' q9_12_15_17 =>
   refine' stage7 (M:=fun (g6:Nat) (A12:Option Addr) (c12:Nat) (A15:Option Addr) (c15:Nat) (g17:Nat) (wx:World)=>MkS w5 W H T nt ne ni no S.si S.so (some g6) none (some g17) (some (A12,c12)) (some (A15,c15)) wx) (fun h6_12_15_17=>?q6_12_15_17) ?p6_12_15_17
  case' q6_12_15_17 =>
   refine' stage6 (M:=fun (g6:Nat) (g9:Nat) (A12:Option Addr) (c12:Nat) (g17:Nat) (wx:World)=>MkS w5 W H T nt ne ni no S.si S.so (some g6) (some g9) (some g17) (some (A12,c12)) none wx) (fun h6_9_12_17=>?q6_9_12_17) ?p6_9_12_17
  case' q6_9_12_17 =>
   refine' stage7 (M:=fun (g6:Nat) (g9:Nat) (A12:Option Addr) (c12:Nat) (A15:Option Addr) (c15:Nat) (wx:World)=>MkS w5 W H T nt ne ni no S.si S.so (some g6) (some g9) none (some (A12,c12)) (some (A15,c15)) wx) (fun h6_9_12_15=>?q6_9_12_15) ?p6_9_12_15
  case' q6_9_12_15 =>
   refine' stage6 (M:=fun (A12:Option Addr) (c12:Nat) (A15:Option Addr) (c15:Nat) (g17:Nat) (wx:World)=>MkS w5 W H T nt ne ni no S.si S.so none none (some g17) (some (A12,c12)) (some (A15,c15)) wx) (fun h12_15_17=>?q12_15_17) ?p12_15_17
  case' q12_15_17 =>
   refine' stage5 (M:=fun (g9:Nat) (A12:Option Addr) (c12:Nat) (g17:Nat) (wx:World)=>MkS w5 W H T nt ne ni no S.si S.so none (some g9) (some g17) (some (A12,c12)) none wx) (fun h9_12_17=>?q9_12_17) ?p9_12_17
  case' q9_12_17 =>
   refine' stage6 (M:=fun (g9:Nat) (A12:Option Addr) (c12:Nat) (A15:Option Addr) (c15:Nat) (wx:World)=>MkS w5 W H T nt ne ni no S.si S.so none (some g9) none (some (A12,c12)) (some (A15,c15)) wx) (fun h9_12_15=>?q9_12_15) ?p9_12_15
  case' q9_12_15 =>
   refine' stage5 (M:=fun (g6:Nat) (A12:Option Addr) (c12:Nat) (g17:Nat) (wx:World)=>MkS w5 W H T nt ne ni no S.si S.so (some g6) none (some g17) (some (A12,c12)) none wx) (fun h6_12_17=>?q6_12_17) ?p6_12_17
  case' q6_12_17 =>
   refine' stage6 (M:=fun (g6:Nat) (A12:Option Addr) (c12:Nat) (A15:Option Addr) (c15:Nat) (wx:World)=>MkS w5 W H T nt ne ni no S.si S.so (some g6) none none (some (A12,c12)) (some (A15,c15)) wx) (fun h6_12_15=>?q6_12_15) ?p6_12_15
  case' q6_12_15 =>
   refine' stage4 (M:=fun (g6:Nat) (g9:Nat) (g17:Nat) (wx:World)=>MkS w5 W H T nt ne ni no S.si S.so (some g6) (some g9) (some g17) none none wx) (fun h6_9_17=>?q6_9_17) ?p6_9_17
  case' q6_9_17 =>
   refine' stage5 (M:=fun (g6:Nat) (g9:Nat) (A12:Option Addr) (c12:Nat) (wx:World)=>MkS w5 W H T nt ne ni no S.si S.so (some g6) (some g9) none (some (A12,c12)) none wx) (fun h6_9_12=>?q6_9_12) ?p6_9_12
  case' q6_9_12 =>
   refine' stage4 (M:=fun (A12:Option Addr) (c12:Nat) (g17:Nat) (wx:World)=>MkS w5 W H T nt ne ni no S.si S.so none none (some g17) (some (A12,c12)) none wx) (fun h12_17=>?q12_17) ?p12_17
  case' q12_17 =>
   refine' stage5 (M:=fun (A12:Option Addr) (c12:Nat) (A15:Option Addr) (c15:Nat) (wx:World)=>MkS w5 W H T nt ne ni no S.si S.so none none none (some (A12,c12)) (some (A15,c15)) wx) (fun h12_15=>?q12_15) ?p12_15
  case' q12_15 =>
   refine' stage3 (M:=fun (g9:Nat) (g17:Nat) (wx:World)=>MkS w5 W H T nt ne ni no S.si S.so none (some g9) (some g17) none none wx) (fun h9_17=>?q9_17) ?p9_17
  case' q9_17 =>
   refine' stage4 (M:=fun (g9:Nat) (A12:Option Addr) (c12:Nat) (wx:World)=>MkS w5 W H T nt ne ni no S.si S.so none (some g9) none (some (A12,c12)) none wx) (fun h9_12=>?q9_12) ?p9_12
  case' q9_12 =>
   refine' stage3 (M:=fun (g6:Nat) (g17:Nat) (wx:World)=>MkS w5 W H T nt ne ni no S.si S.so (some g6) none (some g17) none none wx) (fun h6_17=>?q6_17) ?p6_17
  case' q6_17 =>
   refine' stage4 (M:=fun (g6:Nat) (A12:Option Addr) (c12:Nat) (wx:World)=>MkS w5 W H T nt ne ni no S.si S.so (some g6) none none (some (A12,c12)) none wx) (fun h6_12=>?q6_12) ?p6_12
  case' q6_12 =>
   refine' stage3 (M:=fun (g6:Nat) (g9:Nat) (wx:World)=>MkS w5 W H T nt ne ni no S.si S.so (some g6) (some g9) none none none wx) (fun h6_9=>?q6_9) ?p6_9
  case' q6_9 =>
   refine' stage2 (M:=fun (g17:Nat) (wx:World)=>MkS w5 W H T nt ne ni no S.si S.so none none (some g17) none none wx) (fun h17=>?q17) ?p17
  case' q17 =>
   refine' stage3 (M:=fun (A12:Option Addr) (c12:Nat) (wx:World)=>MkS w5 W H T nt ne ni no S.si S.so none none none (some (A12,c12)) none wx) (fun h12=>?q12) ?p12
  case' q12 =>
   refine' stage2 (M:=fun (g9:Nat) (wx:World)=>MkS w5 W H T nt ne ni no S.si S.so none (some g9) none none none wx) (fun h9=>?q9) ?p9
  case' q9 =>
   refine' stage2 (M:=fun (g6:Nat) (wx:World)=>MkS w5 W H T nt ne ni no S.si S.so (some g6) none none none none wx) (fun h6=>?main) ?p6
  case main =>
   refine tk_ 0 oMk0 (v:=?_) ?_ ?_
   rotate_left
   ·intro w hSw;(try dsimp only at hSw);go_simp;(try with_reducible rfl)
   try simp only [Act.put,la_,lz_,ls_]
   refine tk_ 1 oMk1 (v:=?_) ?_ ?_
   rotate_left
   ·intro w hSw;(try dsimp only at hSw);go_simp;(try with_reducible rfl)
   try simp only [Act.put,la_,lz_,ls_]
   refine tk_ 2 oMk2 (v:=?_) ?_ ?_
   rotate_left
   ·intro w hSw;(try dsimp only at hSw);go_simp;(try with_reducible rfl)
   try simp only [Act.put,la_,lz_,ls_]
   refine tk_ 3 oMk3 (v:=?_) ?_ ?_
   rotate_left
   ·intro w hSw;(try dsimp only at hSw);go_simp;(try with_reducible rfl)
   try simp only [Act.put,la_,lz_,ls_]
   refine tk_ 4 oMk4 (v:=?_) ?_ ?_
   rotate_left
   ·intro w hSw;(try dsimp only at hSw);go_simp;(try with_reducible rfl)
   try simp only [Act.put,la_,lz_,ls_]
   refine tk_ 5 oMk5 (v:=?_) ?_ ?_
   rotate_left
   ·intro w hSw;(try dsimp only at hSw);go_simp;(try with_reducible rfl)
   try simp only [Act.put,la_,lz_,ls_]
   refine tk_ 7 oMk7 (v:=?_) ?_ ?_
   rotate_left
   ·intro w hSw;(try dsimp only at hSw);go_simp;(try with_reducible rfl)
   try simp only [Act.put,la_,lz_,ls_]
   refine tk_ 8 oMk8 (v:=?_) ?_ ?_
   rotate_left
   ·intro w hSw;(try dsimp only at hSw);go_simp;(try with_reducible rfl)
   try simp only [Act.put,la_,lz_,ls_]
   refine tk_ 10 oMk10 (v:=?_) ?_ ?_
   rotate_left
   ·intro w hSw;(try dsimp only at hSw);go_simp;(try with_reducible rfl)
   try simp only [Act.put,la_,lz_,ls_]
   refine tk_ 11 oMk11 (v:=?_) ?_ ?_
   rotate_left
   ·intro w hSw;(try dsimp only at hSw);go_simp;(try with_reducible rfl)
   try simp only [Act.put,la_,lz_,ls_]
   refine tk_ 13 oMk13 (v:=?_) ?_ ?_
   rotate_left
   ·intro w hSw;(try dsimp only at hSw);go_simp;(try with_reducible rfl)
   try simp only [Act.put,la_,lz_,ls_]
   refine tk_ 14 oMk14 (v:=?_) ?_ ?_
   rotate_left
   ·intro w hSw;(try dsimp only at hSw);go_simp;(try with_reducible rfl)
   try simp only [Act.put,la_,lz_,ls_]
   refine rd_ [6,9,12,17] ?_
   refine AllReadyH.cons (o:=oMk6) rfl (fun K hK=>?_) ?_
   ·skip
    go_simp
    obtain ⟨wm,g6,hrm,hom⟩:=MK.out.mk6 (by omega)
    rw [hrm]
    simp only [Result.andThen]
    have MK:=hd_ hom
    clear hrm hom
    refine hK.out _ _ ?_ (fun hh=>?_)
    ·exact HSS.out _ MK.out.bel
    clear hK K
    try simp only [Act.put,la_,lz_,ls_]
    exact h6 g6 _ MK.out
   refine AllReadyH.cons (o:=oMk9) rfl (fun K hK=>?_) ?_
   ·skip
    go_simp
    obtain ⟨wm,g9,hrm,hom⟩:=MK.out.mk9 (by omega)
    rw [hrm]
    simp only [Result.andThen]
    have MK:=hd_ hom
    clear hrm hom
    refine hK.out _ _ ?_ (fun hh=>?_)
    ·exact HSS.out _ MK.out.bel
    clear hK K
    try simp only [Act.put,la_,lz_,ls_]
    exact h9 g9 _ MK.out
   refine AllReadyH.cons (o:=oMk12) rfl (fun K hK=>?_) ?_
   ·skip
    go_simp
    with_reducible refine (HCI5.out _ MK.out.bel).mono ?_
    rintro e wI ⟨A12,c12,rfl,hbI,hoI⟩
    have MN:=hd_ (MK.out.ad12 hbI hoI)
    clear hbI hoI
    have MK:=MN
    clear MN
    refine hK.out _ _ ?_ (fun hh=>?_)
    ·exact HSS.out _ MK.out.bel
    clear hK K
    try simp only [Act.put,la_,lz_,ls_]
    exact h12 A12 c12 _ MK.out
   refine AllReadyH.cons (o:=oMk17) rfl (fun K hK=>?_) ?_
   ·skip
    go_simp
    obtain ⟨wz,g17,hwz,hgz,hom⟩:=MK.out.al17
    rw [hwz,hgz]
    have MK:=hd_ hom
    clear hwz hgz hom
    refine hK.out _ _ ?_ (fun hh=>?_)
    ·exact HSS.out _ MK.out.bel
    clear hK K
    try simp only [Act.put,la_,lz_,ls_]
    exact h17 g17 _ MK.out
   exact AllReadyH.nil
  case p6 =>
   intro g6 wx hMK
   have MK:=hd_ hMK
   have hh:=HSS.out _ MK.out.bel
   clear hMK
   refine rd_ [9,12,17] ?_
   refine AllReadyH.cons (o:=oMk9) rfl (fun K hK=>?_) ?_
   ·clear hh
    go_simp
    obtain ⟨wm,g9,hrm,hom⟩:=MK.out.mk9 (by omega)
    rw [hrm]
    simp only [Result.andThen]
    clear MK
    have MK:=hd_ hom
    clear hrm hom
    refine hK.out _ _ ?_ (fun hh=>?_)
    ·exact HSS.out _ MK.out.bel
    clear hK K
    try simp only [Act.put,la_,lz_,ls_]
    exact h6_9 g6 g9 _ MK.out
   refine AllReadyH.cons (o:=oMk12) rfl (fun K hK=>?_) ?_
   ·clear hh
    go_simp
    with_reducible refine (HCI5.out _ MK.out.bel).mono ?_
    rintro e wI ⟨A12,c12,rfl,hbI,hoI⟩
    have MN:=hd_ (MK.out.ad12 hbI hoI)
    clear hbI hoI MK
    have MK:=MN
    clear MN
    refine hK.out _ _ ?_ (fun hh=>?_)
    ·exact HSS.out _ MK.out.bel
    clear hK K
    try simp only [Act.put,la_,lz_,ls_]
    exact h6_12 g6 A12 c12 _ MK.out
   refine AllReadyH.cons (o:=oMk17) rfl (fun K hK=>?_) ?_
   ·clear hh
    go_simp
    obtain ⟨wz,g17,hwz,hgz,hom⟩:=MK.out.al17
    rw [hwz,hgz]
    clear MK
    have MK:=hd_ hom
    clear hwz hgz hom
    refine hK.out _ _ ?_ (fun hh=>?_)
    ·exact HSS.out _ MK.out.bel
    clear hK K
    try simp only [Act.put,la_,lz_,ls_]
    exact h6_17 g6 g17 _ MK.out
   exact AllReadyH.nil
  case p9 =>
   intro g9 wx hMK
   have MK:=hd_ hMK
   have hh:=HSS.out _ MK.out.bel
   clear hMK
   refine rd_ [6,12,17] ?_
   refine AllReadyH.cons (o:=oMk6) rfl (fun K hK=>?_) ?_
   ·clear hh
    go_simp
    obtain ⟨wm,g6,hrm,hom⟩:=MK.out.mk6 (by omega)
    rw [hrm]
    simp only [Result.andThen]
    clear MK
    have MK:=hd_ hom
    clear hrm hom
    refine hK.out _ _ ?_ (fun hh=>?_)
    ·exact HSS.out _ MK.out.bel
    clear hK K
    try simp only [Act.put,la_,lz_,ls_]
    exact h6_9 g6 g9 _ MK.out
   refine AllReadyH.cons (o:=oMk12) rfl (fun K hK=>?_) ?_
   ·clear hh
    go_simp
    with_reducible refine (HCI5.out _ MK.out.bel).mono ?_
    rintro e wI ⟨A12,c12,rfl,hbI,hoI⟩
    have MN:=hd_ (MK.out.ad12 hbI hoI)
    clear hbI hoI MK
    have MK:=MN
    clear MN
    refine hK.out _ _ ?_ (fun hh=>?_)
    ·exact HSS.out _ MK.out.bel
    clear hK K
    try simp only [Act.put,la_,lz_,ls_]
    exact h9_12 g9 A12 c12 _ MK.out
   refine AllReadyH.cons (o:=oMk17) rfl (fun K hK=>?_) ?_
   ·clear hh
    go_simp
    obtain ⟨wz,g17,hwz,hgz,hom⟩:=MK.out.al17
    rw [hwz,hgz]
    clear MK
    have MK:=hd_ hom
    clear hwz hgz hom
    refine hK.out _ _ ?_ (fun hh=>?_)
    ·exact HSS.out _ MK.out.bel
    clear hK K
    try simp only [Act.put,la_,lz_,ls_]
    exact h9_17 g9 g17 _ MK.out
   exact AllReadyH.nil
  case p12 =>
   intro A12 c12 wx hMK
   have MK:=hd_ hMK
   have hh:=HSS.out _ MK.out.bel
   clear hMK
   refine rd_ [6,9,15,17] ?_
   refine AllReadyH.cons (o:=oMk6) rfl (fun K hK=>?_) ?_
   ·clear hh
    go_simp
    obtain ⟨wm,g6,hrm,hom⟩:=MK.out.mk6 (by omega)
    rw [hrm]
    simp only [Result.andThen]
    clear MK
    have MK:=hd_ hom
    clear hrm hom
    refine hK.out _ _ ?_ (fun hh=>?_)
    ·exact HSS.out _ MK.out.bel
    clear hK K
    try simp only [Act.put,la_,lz_,ls_]
    exact h6_12 g6 A12 c12 _ MK.out
   refine AllReadyH.cons (o:=oMk9) rfl (fun K hK=>?_) ?_
   ·clear hh
    go_simp
    obtain ⟨wm,g9,hrm,hom⟩:=MK.out.mk9 (by omega)
    rw [hrm]
    simp only [Result.andThen]
    clear MK
    have MK:=hd_ hom
    clear hrm hom
    refine hK.out _ _ ?_ (fun hh=>?_)
    ·exact HSS.out _ MK.out.bel
    clear hK K
    try simp only [Act.put,la_,lz_,ls_]
    exact h9_12 g9 A12 c12 _ MK.out
   refine AllReadyH.cons (o:=oMk15) rfl (fun K hK=>?_) ?_
   ·clear hh
    go_simp
    with_reducible refine (HCO5.out _ MK.out.bel).mono ?_
    rintro e wI ⟨A15,c15,rfl,hbI,hoI⟩
    have MN:=hd_ (MK.out.ad15 hbI hoI)
    clear hbI hoI MK
    have MK:=MN
    clear MN
    refine hK.out _ _ ?_ (fun hh=>?_)
    ·exact HSS.out _ MK.out.bel
    clear hK K
    try simp only [Act.put,la_,lz_,ls_]
    exact h12_15 A12 c12 A15 c15 _ MK.out
   refine AllReadyH.cons (o:=oMk17) rfl (fun K hK=>?_) ?_
   ·clear hh
    go_simp
    obtain ⟨wz,g17,hwz,hgz,hom⟩:=MK.out.al17
    rw [hwz,hgz]
    clear MK
    have MK:=hd_ hom
    clear hwz hgz hom
    refine hK.out _ _ ?_ (fun hh=>?_)
    ·exact HSS.out _ MK.out.bel
    clear hK K
    try simp only [Act.put,la_,lz_,ls_]
    exact h12_17 A12 c12 g17 _ MK.out
   exact AllReadyH.nil
  case p17 =>
   intro g17 wx hMK
   have MK:=hd_ hMK
   have hh:=HSS.out _ MK.out.bel
   clear hMK
   refine rd_ [6,9,12] ?_
   refine AllReadyH.cons (o:=oMk6) rfl (fun K hK=>?_) ?_
   ·clear hh
    go_simp
    obtain ⟨wm,g6,hrm,hom⟩:=MK.out.mk6 (by omega)
    rw [hrm]
    simp only [Result.andThen]
    clear MK
    have MK:=hd_ hom
    clear hrm hom
    refine hK.out _ _ ?_ (fun hh=>?_)
    ·exact HSS.out _ MK.out.bel
    clear hK K
    try simp only [Act.put,la_,lz_,ls_]
    exact h6_17 g6 g17 _ MK.out
   refine AllReadyH.cons (o:=oMk9) rfl (fun K hK=>?_) ?_
   ·clear hh
    go_simp
    obtain ⟨wm,g9,hrm,hom⟩:=MK.out.mk9 (by omega)
    rw [hrm]
    simp only [Result.andThen]
    clear MK
    have MK:=hd_ hom
    clear hrm hom
    refine hK.out _ _ ?_ (fun hh=>?_)
    ·exact HSS.out _ MK.out.bel
    clear hK K
    try simp only [Act.put,la_,lz_,ls_]
    exact h9_17 g9 g17 _ MK.out
   refine AllReadyH.cons (o:=oMk12) rfl (fun K hK=>?_) ?_
   ·clear hh
    go_simp
    with_reducible refine (HCI5.out _ MK.out.bel).mono ?_
    rintro e wI ⟨A12,c12,rfl,hbI,hoI⟩
    have MN:=hd_ (MK.out.ad12 hbI hoI)
    clear hbI hoI MK
    have MK:=MN
    clear MN
    refine hK.out _ _ ?_ (fun hh=>?_)
    ·exact HSS.out _ MK.out.bel
    clear hK K
    try simp only [Act.put,la_,lz_,ls_]
    exact h12_17 A12 c12 g17 _ MK.out
   exact AllReadyH.nil
  case p6_9 =>
   intro g6 g9 wx hMK
   have MK:=hd_ hMK
   have hh:=HSS.out _ MK.out.bel
   clear hMK
   refine rd_ [12,17] ?_
   refine AllReadyH.cons (o:=oMk12) rfl (fun K hK=>?_) ?_
   ·clear hh
    go_simp
    with_reducible refine (HCI5.out _ MK.out.bel).mono ?_
    rintro e wI ⟨A12,c12,rfl,hbI,hoI⟩
    have MN:=hd_ (MK.out.ad12 hbI hoI)
    clear hbI hoI MK
    have MK:=MN
    clear MN
    refine hK.out _ _ ?_ (fun hh=>?_)
    ·exact HSS.out _ MK.out.bel
    clear hK K
    try simp only [Act.put,la_,lz_,ls_]
    exact h6_9_12 g6 g9 A12 c12 _ MK.out
   refine AllReadyH.cons (o:=oMk17) rfl (fun K hK=>?_) ?_
   ·clear hh
    go_simp
    obtain ⟨wz,g17,hwz,hgz,hom⟩:=MK.out.al17
    rw [hwz,hgz]
    clear MK
    have MK:=hd_ hom
    clear hwz hgz hom
    refine hK.out _ _ ?_ (fun hh=>?_)
    ·exact HSS.out _ MK.out.bel
    clear hK K
    try simp only [Act.put,la_,lz_,ls_]
    exact h6_9_17 g6 g9 g17 _ MK.out
   exact AllReadyH.nil
  case p6_12 =>
   intro g6 A12 c12 wx hMK
   have MK:=hd_ hMK
   have hh:=HSS.out _ MK.out.bel
   clear hMK
   refine rd_ [9,15,17] ?_
   refine AllReadyH.cons (o:=oMk9) rfl (fun K hK=>?_) ?_
   ·clear hh
    go_simp
    obtain ⟨wm,g9,hrm,hom⟩:=MK.out.mk9 (by omega)
    rw [hrm]
    simp only [Result.andThen]
    clear MK
    have MK:=hd_ hom
    clear hrm hom
    refine hK.out _ _ ?_ (fun hh=>?_)
    ·exact HSS.out _ MK.out.bel
    clear hK K
    try simp only [Act.put,la_,lz_,ls_]
    exact h6_9_12 g6 g9 A12 c12 _ MK.out
   refine AllReadyH.cons (o:=oMk15) rfl (fun K hK=>?_) ?_
   ·clear hh
    go_simp
    with_reducible refine (HCO5.out _ MK.out.bel).mono ?_
    rintro e wI ⟨A15,c15,rfl,hbI,hoI⟩
    have MN:=hd_ (MK.out.ad15 hbI hoI)
    clear hbI hoI MK
    have MK:=MN
    clear MN
    refine hK.out _ _ ?_ (fun hh=>?_)
    ·exact HSS.out _ MK.out.bel
    clear hK K
    try simp only [Act.put,la_,lz_,ls_]
    exact h6_12_15 g6 A12 c12 A15 c15 _ MK.out
   refine AllReadyH.cons (o:=oMk17) rfl (fun K hK=>?_) ?_
   ·clear hh
    go_simp
    obtain ⟨wz,g17,hwz,hgz,hom⟩:=MK.out.al17
    rw [hwz,hgz]
    clear MK
    have MK:=hd_ hom
    clear hwz hgz hom
    refine hK.out _ _ ?_ (fun hh=>?_)
    ·exact HSS.out _ MK.out.bel
    clear hK K
    try simp only [Act.put,la_,lz_,ls_]
    exact h6_12_17 g6 A12 c12 g17 _ MK.out
   exact AllReadyH.nil
  case p6_17 =>
   intro g6 g17 wx hMK
   have MK:=hd_ hMK
   have hh:=HSS.out _ MK.out.bel
   clear hMK
   refine rd_ [9,12] ?_
   refine AllReadyH.cons (o:=oMk9) rfl (fun K hK=>?_) ?_
   ·clear hh
    go_simp
    obtain ⟨wm,g9,hrm,hom⟩:=MK.out.mk9 (by omega)
    rw [hrm]
    simp only [Result.andThen]
    clear MK
    have MK:=hd_ hom
    clear hrm hom
    refine hK.out _ _ ?_ (fun hh=>?_)
    ·exact HSS.out _ MK.out.bel
    clear hK K
    try simp only [Act.put,la_,lz_,ls_]
    exact h6_9_17 g6 g9 g17 _ MK.out
   refine AllReadyH.cons (o:=oMk12) rfl (fun K hK=>?_) ?_
   ·clear hh
    go_simp
    with_reducible refine (HCI5.out _ MK.out.bel).mono ?_
    rintro e wI ⟨A12,c12,rfl,hbI,hoI⟩
    have MN:=hd_ (MK.out.ad12 hbI hoI)
    clear hbI hoI MK
    have MK:=MN
    clear MN
    refine hK.out _ _ ?_ (fun hh=>?_)
    ·exact HSS.out _ MK.out.bel
    clear hK K
    try simp only [Act.put,la_,lz_,ls_]
    exact h6_12_17 g6 A12 c12 g17 _ MK.out
   exact AllReadyH.nil
  case p9_12 =>
   intro g9 A12 c12 wx hMK
   have MK:=hd_ hMK
   have hh:=HSS.out _ MK.out.bel
   clear hMK
   refine rd_ [6,15,17] ?_
   refine AllReadyH.cons (o:=oMk6) rfl (fun K hK=>?_) ?_
   ·clear hh
    go_simp
    obtain ⟨wm,g6,hrm,hom⟩:=MK.out.mk6 (by omega)
    rw [hrm]
    simp only [Result.andThen]
    clear MK
    have MK:=hd_ hom
    clear hrm hom
    refine hK.out _ _ ?_ (fun hh=>?_)
    ·exact HSS.out _ MK.out.bel
    clear hK K
    try simp only [Act.put,la_,lz_,ls_]
    exact h6_9_12 g6 g9 A12 c12 _ MK.out
   refine AllReadyH.cons (o:=oMk15) rfl (fun K hK=>?_) ?_
   ·clear hh
    go_simp
    with_reducible refine (HCO5.out _ MK.out.bel).mono ?_
    rintro e wI ⟨A15,c15,rfl,hbI,hoI⟩
    have MN:=hd_ (MK.out.ad15 hbI hoI)
    clear hbI hoI MK
    have MK:=MN
    clear MN
    refine hK.out _ _ ?_ (fun hh=>?_)
    ·exact HSS.out _ MK.out.bel
    clear hK K
    try simp only [Act.put,la_,lz_,ls_]
    exact h9_12_15 g9 A12 c12 A15 c15 _ MK.out
   refine AllReadyH.cons (o:=oMk17) rfl (fun K hK=>?_) ?_
   ·clear hh
    go_simp
    obtain ⟨wz,g17,hwz,hgz,hom⟩:=MK.out.al17
    rw [hwz,hgz]
    clear MK
    have MK:=hd_ hom
    clear hwz hgz hom
    refine hK.out _ _ ?_ (fun hh=>?_)
    ·exact HSS.out _ MK.out.bel
    clear hK K
    try simp only [Act.put,la_,lz_,ls_]
    exact h9_12_17 g9 A12 c12 g17 _ MK.out
   exact AllReadyH.nil
  case p9_17 =>
   intro g9 g17 wx hMK
   have MK:=hd_ hMK
   have hh:=HSS.out _ MK.out.bel
   clear hMK
   refine rd_ [6,12] ?_
   refine AllReadyH.cons (o:=oMk6) rfl (fun K hK=>?_) ?_
   ·clear hh
    go_simp
    obtain ⟨wm,g6,hrm,hom⟩:=MK.out.mk6 (by omega)
    rw [hrm]
    simp only [Result.andThen]
    clear MK
    have MK:=hd_ hom
    clear hrm hom
    refine hK.out _ _ ?_ (fun hh=>?_)
    ·exact HSS.out _ MK.out.bel
    clear hK K
    try simp only [Act.put,la_,lz_,ls_]
    exact h6_9_17 g6 g9 g17 _ MK.out
   refine AllReadyH.cons (o:=oMk12) rfl (fun K hK=>?_) ?_
   ·clear hh
    go_simp
    with_reducible refine (HCI5.out _ MK.out.bel).mono ?_
    rintro e wI ⟨A12,c12,rfl,hbI,hoI⟩
    have MN:=hd_ (MK.out.ad12 hbI hoI)
    clear hbI hoI MK
    have MK:=MN
    clear MN
    refine hK.out _ _ ?_ (fun hh=>?_)
    ·exact HSS.out _ MK.out.bel
    clear hK K
    try simp only [Act.put,la_,lz_,ls_]
    exact h9_12_17 g9 A12 c12 g17 _ MK.out
   exact AllReadyH.nil
  case p12_15 =>
   intro A12 c12 A15 c15 wx hMK
   have MK:=hd_ hMK
   have hh:=HSS.out _ MK.out.bel
   clear hMK
   refine rd_ [6,9,17] ?_
   refine AllReadyH.cons (o:=oMk6) rfl (fun K hK=>?_) ?_
   ·clear hh
    go_simp
    obtain ⟨wm,g6,hrm,hom⟩:=MK.out.mk6 (by omega)
    rw [hrm]
    simp only [Result.andThen]
    clear MK
    have MK:=hd_ hom
    clear hrm hom
    refine hK.out _ _ ?_ (fun hh=>?_)
    ·exact HSS.out _ MK.out.bel
    clear hK K
    try simp only [Act.put,la_,lz_,ls_]
    exact h6_12_15 g6 A12 c12 A15 c15 _ MK.out
   refine AllReadyH.cons (o:=oMk9) rfl (fun K hK=>?_) ?_
   ·clear hh
    go_simp
    obtain ⟨wm,g9,hrm,hom⟩:=MK.out.mk9 (by omega)
    rw [hrm]
    simp only [Result.andThen]
    clear MK
    have MK:=hd_ hom
    clear hrm hom
    refine hK.out _ _ ?_ (fun hh=>?_)
    ·exact HSS.out _ MK.out.bel
    clear hK K
    try simp only [Act.put,la_,lz_,ls_]
    exact h9_12_15 g9 A12 c12 A15 c15 _ MK.out
   refine AllReadyH.cons (o:=oMk17) rfl (fun K hK=>?_) ?_
   ·clear hh
    go_simp
    obtain ⟨wz,g17,hwz,hgz,hom⟩:=MK.out.al17
    rw [hwz,hgz]
    clear MK
    have MK:=hd_ hom
    clear hwz hgz hom
    refine hK.out _ _ ?_ (fun hh=>?_)
    ·exact HSS.out _ MK.out.bel
    clear hK K
    try simp only [Act.put,la_,lz_,ls_]
    exact h12_15_17 A12 c12 A15 c15 g17 _ MK.out
   exact AllReadyH.nil
  case p12_17 =>
   intro A12 c12 g17 wx hMK
   have MK:=hd_ hMK
   have hh:=HSS.out _ MK.out.bel
   clear hMK
   refine rd_ [6,9,15] ?_
   refine AllReadyH.cons (o:=oMk6) rfl (fun K hK=>?_) ?_
   ·clear hh
    go_simp
    obtain ⟨wm,g6,hrm,hom⟩:=MK.out.mk6 (by omega)
    rw [hrm]
    simp only [Result.andThen]
    clear MK
    have MK:=hd_ hom
    clear hrm hom
    refine hK.out _ _ ?_ (fun hh=>?_)
    ·exact HSS.out _ MK.out.bel
    clear hK K
    try simp only [Act.put,la_,lz_,ls_]
    exact h6_12_17 g6 A12 c12 g17 _ MK.out
   refine AllReadyH.cons (o:=oMk9) rfl (fun K hK=>?_) ?_
   ·clear hh
    go_simp
    obtain ⟨wm,g9,hrm,hom⟩:=MK.out.mk9 (by omega)
    rw [hrm]
    simp only [Result.andThen]
    clear MK
    have MK:=hd_ hom
    clear hrm hom
    refine hK.out _ _ ?_ (fun hh=>?_)
    ·exact HSS.out _ MK.out.bel
    clear hK K
    try simp only [Act.put,la_,lz_,ls_]
    exact h9_12_17 g9 A12 c12 g17 _ MK.out
   refine AllReadyH.cons (o:=oMk15) rfl (fun K hK=>?_) ?_
   ·clear hh
    go_simp
    with_reducible refine (HCO5.out _ MK.out.bel).mono ?_
    rintro e wI ⟨A15,c15,rfl,hbI,hoI⟩
    have MN:=hd_ (MK.out.ad15 hbI hoI)
    clear hbI hoI MK
    have MK:=MN
    clear MN
    refine hK.out _ _ ?_ (fun hh=>?_)
    ·exact HSS.out _ MK.out.bel
    clear hK K
    try simp only [Act.put,la_,lz_,ls_]
    exact h12_15_17 A12 c12 A15 c15 g17 _ MK.out
   exact AllReadyH.nil
  case p6_9_12 =>
   intro g6 g9 A12 c12 wx hMK
   have MK:=hd_ hMK
   have hh:=HSS.out _ MK.out.bel
   clear hMK
   refine rd_ [15,17] ?_
   refine AllReadyH.cons (o:=oMk15) rfl (fun K hK=>?_) ?_
   ·clear hh
    go_simp
    with_reducible refine (HCO5.out _ MK.out.bel).mono ?_
    rintro e wI ⟨A15,c15,rfl,hbI,hoI⟩
    have MN:=hd_ (MK.out.ad15 hbI hoI)
    clear hbI hoI MK
    have MK:=MN
    clear MN
    refine hK.out _ _ ?_ (fun hh=>?_)
    ·exact HSS.out _ MK.out.bel
    clear hK K
    try simp only [Act.put,la_,lz_,ls_]
    refine tk_ 16 oMk16 (v:=?_) ?_ ?_
    rotate_left
    ·intro w hSw;(try dsimp only at hSw);go_simp;(try with_reducible rfl)
    try simp only [Act.put,la_,lz_,ls_]
    exact h6_9_12_15 g6 g9 A12 c12 A15 c15 _ MK.out
   refine AllReadyH.cons (o:=oMk17) rfl (fun K hK=>?_) ?_
   ·clear hh
    go_simp
    obtain ⟨wz,g17,hwz,hgz,hom⟩:=MK.out.al17
    rw [hwz,hgz]
    clear MK
    have MK:=hd_ hom
    clear hwz hgz hom
    refine hK.out _ _ ?_ (fun hh=>?_)
    ·exact HSS.out _ MK.out.bel
    clear hK K
    try simp only [Act.put,la_,lz_,ls_]
    exact h6_9_12_17 g6 g9 A12 c12 g17 _ MK.out
   exact AllReadyH.nil
  case p6_9_17 =>
   intro g6 g9 g17 wx hMK
   have MK:=hd_ hMK
   have hh:=HSS.out _ MK.out.bel
   clear hMK
   refine rd_ [12] ?_
   refine AllReadyH.cons (o:=oMk12) rfl (fun K hK=>?_) ?_
   ·clear hh
    go_simp
    with_reducible refine (HCI5.out _ MK.out.bel).mono ?_
    rintro e wI ⟨A12,c12,rfl,hbI,hoI⟩
    have MN:=hd_ (MK.out.ad12 hbI hoI)
    clear hbI hoI MK
    have MK:=MN
    clear MN
    refine hK.out _ _ ?_ (fun hh=>?_)
    ·exact HSS.out _ MK.out.bel
    clear hK K
    try simp only [Act.put,la_,lz_,ls_]
    exact h6_9_12_17 g6 g9 A12 c12 g17 _ MK.out
   exact AllReadyH.nil
  case p6_12_15 =>
   intro g6 A12 c12 A15 c15 wx hMK
   have MK:=hd_ hMK
   have hh:=HSS.out _ MK.out.bel
   clear hMK
   refine rd_ [9,17] ?_
   refine AllReadyH.cons (o:=oMk9) rfl (fun K hK=>?_) ?_
   ·clear hh
    go_simp
    obtain ⟨wm,g9,hrm,hom⟩:=MK.out.mk9 (by omega)
    rw [hrm]
    simp only [Result.andThen]
    clear MK
    have MK:=hd_ hom
    clear hrm hom
    refine hK.out _ _ ?_ (fun hh=>?_)
    ·exact HSS.out _ MK.out.bel
    clear hK K
    try simp only [Act.put,la_,lz_,ls_]
    refine tk_ 16 oMk16 (v:=?_) ?_ ?_
    rotate_left
    ·intro w hSw;(try dsimp only at hSw);go_simp;(try with_reducible rfl)
    try simp only [Act.put,la_,lz_,ls_]
    exact h6_9_12_15 g6 g9 A12 c12 A15 c15 _ MK.out
   refine AllReadyH.cons (o:=oMk17) rfl (fun K hK=>?_) ?_
   ·clear hh
    go_simp
    obtain ⟨wz,g17,hwz,hgz,hom⟩:=MK.out.al17
    rw [hwz,hgz]
    clear MK
    have MK:=hd_ hom
    clear hwz hgz hom
    refine hK.out _ _ ?_ (fun hh=>?_)
    ·exact HSS.out _ MK.out.bel
    clear hK K
    try simp only [Act.put,la_,lz_,ls_]
    exact h6_12_15_17 g6 A12 c12 A15 c15 g17 _ MK.out
   exact AllReadyH.nil
  case p6_12_17 =>
   intro g6 A12 c12 g17 wx hMK
   have MK:=hd_ hMK
   have hh:=HSS.out _ MK.out.bel
   clear hMK
   refine rd_ [9,15] ?_
   refine AllReadyH.cons (o:=oMk9) rfl (fun K hK=>?_) ?_
   ·clear hh
    go_simp
    obtain ⟨wm,g9,hrm,hom⟩:=MK.out.mk9 (by omega)
    rw [hrm]
    simp only [Result.andThen]
    clear MK
    have MK:=hd_ hom
    clear hrm hom
    refine hK.out _ _ ?_ (fun hh=>?_)
    ·exact HSS.out _ MK.out.bel
    clear hK K
    try simp only [Act.put,la_,lz_,ls_]
    exact h6_9_12_17 g6 g9 A12 c12 g17 _ MK.out
   refine AllReadyH.cons (o:=oMk15) rfl (fun K hK=>?_) ?_
   ·clear hh
    go_simp
    with_reducible refine (HCO5.out _ MK.out.bel).mono ?_
    rintro e wI ⟨A15,c15,rfl,hbI,hoI⟩
    have MN:=hd_ (MK.out.ad15 hbI hoI)
    clear hbI hoI MK
    have MK:=MN
    clear MN
    refine hK.out _ _ ?_ (fun hh=>?_)
    ·exact HSS.out _ MK.out.bel
    clear hK K
    try simp only [Act.put,la_,lz_,ls_]
    exact h6_12_15_17 g6 A12 c12 A15 c15 g17 _ MK.out
   exact AllReadyH.nil
  case p9_12_15 =>
   intro g9 A12 c12 A15 c15 wx hMK
   have MK:=hd_ hMK
   have hh:=HSS.out _ MK.out.bel
   clear hMK
   refine rd_ [6,17] ?_
   refine AllReadyH.cons (o:=oMk6) rfl (fun K hK=>?_) ?_
   ·clear hh
    go_simp
    obtain ⟨wm,g6,hrm,hom⟩:=MK.out.mk6 (by omega)
    rw [hrm]
    simp only [Result.andThen]
    clear MK
    have MK:=hd_ hom
    clear hrm hom
    refine hK.out _ _ ?_ (fun hh=>?_)
    ·exact HSS.out _ MK.out.bel
    clear hK K
    try simp only [Act.put,la_,lz_,ls_]
    refine tk_ 16 oMk16 (v:=?_) ?_ ?_
    rotate_left
    ·intro w hSw;(try dsimp only at hSw);go_simp;(try with_reducible rfl)
    try simp only [Act.put,la_,lz_,ls_]
    exact h6_9_12_15 g6 g9 A12 c12 A15 c15 _ MK.out
   refine AllReadyH.cons (o:=oMk17) rfl (fun K hK=>?_) ?_
   ·clear hh
    go_simp
    obtain ⟨wz,g17,hwz,hgz,hom⟩:=MK.out.al17
    rw [hwz,hgz]
    clear MK
    have MK:=hd_ hom
    clear hwz hgz hom
    refine hK.out _ _ ?_ (fun hh=>?_)
    ·exact HSS.out _ MK.out.bel
    clear hK K
    try simp only [Act.put,la_,lz_,ls_]
    exact h9_12_15_17 g9 A12 c12 A15 c15 g17 _ MK.out
   exact AllReadyH.nil
  case p9_12_17 =>
   intro g9 A12 c12 g17 wx hMK
   have MK:=hd_ hMK
   have hh:=HSS.out _ MK.out.bel
   clear hMK
   refine rd_ [6,15] ?_
   refine AllReadyH.cons (o:=oMk6) rfl (fun K hK=>?_) ?_
   ·clear hh
    go_simp
    obtain ⟨wm,g6,hrm,hom⟩:=MK.out.mk6 (by omega)
    rw [hrm]
    simp only [Result.andThen]
    clear MK
    have MK:=hd_ hom
    clear hrm hom
    refine hK.out _ _ ?_ (fun hh=>?_)
    ·exact HSS.out _ MK.out.bel
    clear hK K
    try simp only [Act.put,la_,lz_,ls_]
    exact h6_9_12_17 g6 g9 A12 c12 g17 _ MK.out
   refine AllReadyH.cons (o:=oMk15) rfl (fun K hK=>?_) ?_
   ·clear hh
    go_simp
    with_reducible refine (HCO5.out _ MK.out.bel).mono ?_
    rintro e wI ⟨A15,c15,rfl,hbI,hoI⟩
    have MN:=hd_ (MK.out.ad15 hbI hoI)
    clear hbI hoI MK
    have MK:=MN
    clear MN
    refine hK.out _ _ ?_ (fun hh=>?_)
    ·exact HSS.out _ MK.out.bel
    clear hK K
    try simp only [Act.put,la_,lz_,ls_]
    exact h9_12_15_17 g9 A12 c12 A15 c15 g17 _ MK.out
   exact AllReadyH.nil
  case p12_15_17 =>
   intro A12 c12 A15 c15 g17 wx hMK
   have MK:=hd_ hMK
   have hh:=HSS.out _ MK.out.bel
   clear hMK
   refine rd_ [6,9] ?_
   refine AllReadyH.cons (o:=oMk6) rfl (fun K hK=>?_) ?_
   ·clear hh
    go_simp
    obtain ⟨wm,g6,hrm,hom⟩:=MK.out.mk6 (by omega)
    rw [hrm]
    simp only [Result.andThen]
    clear MK
    have MK:=hd_ hom
    clear hrm hom
    refine hK.out _ _ ?_ (fun hh=>?_)
    ·exact HSS.out _ MK.out.bel
    clear hK K
    try simp only [Act.put,la_,lz_,ls_]
    exact h6_12_15_17 g6 A12 c12 A15 c15 g17 _ MK.out
   refine AllReadyH.cons (o:=oMk9) rfl (fun K hK=>?_) ?_
   ·clear hh
    go_simp
    obtain ⟨wm,g9,hrm,hom⟩:=MK.out.mk9 (by omega)
    rw [hrm]
    simp only [Result.andThen]
    clear MK
    have MK:=hd_ hom
    clear hrm hom
    refine hK.out _ _ ?_ (fun hh=>?_)
    ·exact HSS.out _ MK.out.bel
    clear hK K
    try simp only [Act.put,la_,lz_,ls_]
    exact h9_12_15_17 g9 A12 c12 A15 c15 g17 _ MK.out
   exact AllReadyH.nil
  case p6_9_12_15 =>
   intro g6 g9 A12 c12 A15 c15 wx hMK
   have MK:=hd_ hMK
   have hh:=HSS.out _ MK.out.bel
   clear hMK
   refine rd_ [17] ?_
   refine AllReadyH.cons (o:=oMk17) rfl (fun K hK=>?_) ?_
   ·clear hh
    go_simp
    obtain ⟨wz,g17,hwz,hgz,hom⟩:=MK.out.al17
    rw [hwz,hgz]
    clear MK
    have MK:=hd_ hom
    clear hwz hgz hom
    refine hK.out _ _ ?_ (fun hh=>?_)
    ·exact HSS.out _ MK.out.bel
    clear hK K
    try simp only [Act.put,la_,lz_,ls_]
    exact h6_9_12_15_17 g6 g9 A12 c12 A15 c15 g17 _ MK.out
   exact AllReadyH.nil
  case p6_9_12_17 =>
   intro g6 g9 A12 c12 g17 wx hMK
   have MK:=hd_ hMK
   have hh:=HSS.out _ MK.out.bel
   clear hMK
   refine rd_ [15] ?_
   refine AllReadyH.cons (o:=oMk15) rfl (fun K hK=>?_) ?_
   ·clear hh
    go_simp
    with_reducible refine (HCO5.out _ MK.out.bel).mono ?_
    rintro e wI ⟨A15,c15,rfl,hbI,hoI⟩
    have MN:=hd_ (MK.out.ad15 hbI hoI)
    clear hbI hoI MK
    have MK:=MN
    clear MN
    refine hK.out _ _ ?_ (fun hh=>?_)
    ·exact HSS.out _ MK.out.bel
    clear hK K
    try simp only [Act.put,la_,lz_,ls_]
    refine tk_ 16 oMk16 (v:=?_) ?_ ?_
    rotate_left
    ·intro w hSw;(try dsimp only at hSw);go_simp;(try with_reducible rfl)
    try simp only [Act.put,la_,lz_,ls_]
    exact h6_9_12_15_17 g6 g9 A12 c12 A15 c15 g17 _ MK.out
   exact AllReadyH.nil
  case p6_12_15_17 =>
   intro g6 A12 c12 A15 c15 g17 wx hMK
   have MK:=hd_ hMK
   have hh:=HSS.out _ MK.out.bel
   clear hMK
   refine rd_ [9] ?_
   refine AllReadyH.cons (o:=oMk9) rfl (fun K hK=>?_) ?_
   ·clear hh
    go_simp
    obtain ⟨wm,g9,hrm,hom⟩:=MK.out.mk9 (by omega)
    rw [hrm]
    simp only [Result.andThen]
    clear MK
    have MK:=hd_ hom
    clear hrm hom
    refine hK.out _ _ ?_ (fun hh=>?_)
    ·exact HSS.out _ MK.out.bel
    clear hK K
    try simp only [Act.put,la_,lz_,ls_]
    refine tk_ 16 oMk16 (v:=?_) ?_ ?_
    rotate_left
    ·intro w hSw;(try dsimp only at hSw);go_simp;(try with_reducible rfl)
    try simp only [Act.put,la_,lz_,ls_]
    exact h6_9_12_15_17 g6 g9 A12 c12 A15 c15 g17 _ MK.out
   exact AllReadyH.nil
  case p9_12_15_17 =>
   intro g9 A12 c12 A15 c15 g17 wx hMK
   have MK:=hd_ hMK
   have hh:=HSS.out _ MK.out.bel
   clear hMK
   refine rd_ [6] ?_
   refine AllReadyH.cons (o:=oMk6) rfl (fun K hK=>?_) ?_
   ·clear hh
    go_simp
    obtain ⟨wm,g6,hrm,hom⟩:=MK.out.mk6 (by omega)
    rw [hrm]
    simp only [Result.andThen]
    clear MK
    have MK:=hd_ hom
    clear hrm hom
    refine hK.out _ _ ?_ (fun hh=>?_)
    ·exact HSS.out _ MK.out.bel
    clear hK K
    try simp only [Act.put,la_,lz_,ls_]
    refine tk_ 16 oMk16 (v:=?_) ?_ ?_
    rotate_left
    ·intro w hSw;(try dsimp only at hSw);go_simp;(try with_reducible rfl)
    try simp only [Act.put,la_,lz_,ls_]
    exact h6_9_12_15_17 g6 g9 A12 c12 A15 c15 g17 _ MK.out
   exact AllReadyH.nil
  case p6_9_12_15_17 =>
   intro g6 g9 A12 c12 A15 c15 g17 wx hMK
   have MK:=hd_ hMK
   have hh:=HSS.out _ MK.out.bel
   clear hMK
   refine rd_ [18] ?_
   refine AllReadyH.cons (o:=oMk18) rfl (fun K hK=>?_) ?_
   ·clear hh
    obtain ⟨⟨z0,z1,z2,z3,z4,z5,z6⟩,s0,s1,s2,s3,s4,s5,s6⟩:=cells7 (MK.out.c _ rfl).2
    go_simp
    have MF:=hd_ MK.out.fin
    clear z0 z1 z2 z3 z4 z5 z6 s0 s1 s2 s3 s4 s5 s6
    refine hK.out _ _ ?_ (fun hh=>?_)
    ·(first|exact HSS.out _ MF.out.bel|exact HSS.out _ MK.out.bel)
    clear hK K
    try simp only [Act.put,la_,lz_,ls_]
    refine wpAnyH_done (by kernel_rfl) ?_ _
    clear MK
    go_wp2_with fail
    go_meet
    exact ⟨_,_,_,_,_,_,_,rfl,MF.out⟩
   exact AllReadyH.nil
 case rest =>
  obtain ⟨gc,g1,g2,A3,A4,c3,c4,rfl,hM⟩:=hcut
  have MC:=hd_ hM
  have M6:=hd_ (M5.out.keep MC.out.bel)
  have hs5:w.heap.size+1+1+1<w5.heap.size:=M5.out.r.lt
  have hg1:=MC.out.t.1
  have hg2:=MC.out.o.1
  have hgc:=MC.out.c.1
  have hg1l:g1<wc.heap.size:=MC.out.t.2.lt
  have h12:¬ g2=g1:=fun e=>(Blk.other MC.out.o.2 MC.out.t.2 (by decide)) e
  have hc1:¬ gc=g1:=fun e=>(Blk.other MC.out.c.2 MC.out.t.2 (by decide)) e
  have hc2:¬ gc=g2:=fun e=>(Blk.other MC.out.c.2 MC.out.o.2 (by decide)) e
  clear hM HCI5 HCO5 hWH M5
  have HM6:=hd_ (fun (W':World) (hW:Chg wc W' (fun k=>k=g1))=>M6.out.chg hW (fun k hk=>by omega))
  have HC6:=hd_ (fun (W':World) (hW:Chg wc W' (fun k=>k=g1))=>hW.blk MC.out.c.2 hc1)
  have HO6:=hd_ (fun (W':World) (hW:Chg wc W' (fun k=>k=g1))=>show BitsB W' g2 (List.replicate ne false) from hW.blk MC.out.o.2 h12)
  have HI6:=hd_ (fun (W':World) (hW:Chg wc W' (fun k=>k=g1))=>hW.own MC.out.i (fun g e hk=>own_other MC.out.i MC.out.t.2 (by decide) (by rw [e,hk])))
  have HU6:=hd_ (fun (W':World) (hW:Chg wc W' (fun k=>k=g1))=>hW.own MC.out.u (fun g e hk=>own_other MC.out.u MC.out.t.2 (by decide) (by rw [e,hk])))
  have T0:=hd_ (show TilesB wc g1 (tilesTo nt P.bs S.sb 0) from MC.out.t.2)
  have p1:=M6.out.p.cell 1
  obtain rfl:pb=nb:=by rw [<- HNB.out,<- HPB.out];exact HSP.out.1.symm
  clear MC
  go_wp2_with fail
  clear p1
  go_loopw [70] (fun v70 wx=>∃ i:Nat,i<=pb∧v70=.int .i64 (i:Int)∧TilesB wx g1 (tilesTo nt P.bs S.sb i)∧Chg wc wx (fun k=>k=g1)) (fun v70 _=>pb-(intOf v70).toNat)
  case atStart=>exact ⟨0,by omega,rfl,T0.out,Chg.refl _ _⟩
  case round =>
   clear T0 M6
   obtain ⟨i,hi,rfl,ht,hc⟩:=hrel
   have TT:=hd_ ht
   have CC:=hd_ hc
   clear ht hc
   have M7:=hd_ (HM6.out _ CC.out)
   by_cases hin:i<pb
   case pos =>
    have hin':(i:Int)<(pb:Int):=by omega
    have hib:i<P.bs.length:=by rw [HPB.out];exact hin
    have hmem:=List.getElem_mem hib
    have hok:=HMAY.out.2.2.2.1 _ hmem
    have hbl:=hok.1
    have hbt:=hok.2.2.2
    obtain ⟨pa,hpa,-,e0,e1,e2,e3⟩:=(HI.out.later M7.out.q).blocks.block hib
    obtain ⟨sa,hsa,hsab,v0⟩:=HSI.out.b.int (k:=i) (by rw [HNB.out];omega)
    have HSA:=hd_ hsa
    have hsm:S.sb.getD i 0 ∈ S.sb:=by
     have h:i<S.sb.length:=by rw [HNB.out];omega
     rw [List.getD_eq_getElem?_getD,List.getElem?_eq_getElem h]
     exact List.getElem_mem h
    have hsr:=HSP.out.2.2.2.1.1 _ hsm
    rw [HNT.out] at hsr
    have HNX:=hd_ (show tilesTo nt P.bs S.sb (i+1)=(tilesTo nt P.bs S.sb i).set (S.sb.getD i 0).toNat (tlOf P.bs[i]) by rw [<- tlAt_get hib];rfl)
    generalize S.sb.getD i 0=sv at v0 hsr HNX
    obtain ⟨tn,rfl⟩:∃ tn:Nat,sv=(tn:Int):=⟨sv.toNat,by omega⟩
    rw [Int.toNat_natCast] at HNX
    generalize P.bs[i]'hib=b at e0 e1 e2 e3 hbl hbt HNX
    obtain ⟨bk,hbk⟩:∃ n,b.l.length=n:=⟨_,rfl⟩
    have HSPR:=hd_ (fun W'=>spread_any b W' hbl hbt)
    rw [hbk] at e0 HSPR
    have p1:=M7.out.p.cell 1
    rw [HPAB.out] at hpa
    subst hpa
    have htl:(tilesTo nt P.bs S.sb i).length=nt:=tilesTo_len _ _ _ _
    have HTL:=hd_ htl
    clear hmem hok hbl hbt hbk hsa hsm htl hib
    have htn:(tn:Int)<(nt:Int):=hsr.2
    have htn':tn<nt:=by omega
    have hinb:(i:Int)<(pb:Int):=by omega
    clear hsr
    go_upto_region 14 with (fail)
    clear e0 e1 e2 e3 p1
    have BW:=bn_ wr (.cells #[.slice b.A bk b.c,.int .i64 b.t,.bool b.ff,.bool b.it] 62)
    have BB:=hd_ (Blk.made wr 62 #[.slice b.A bk b.c,.int .i64 b.t,.bool b.ff,.bool b.it])
    have T8:=hd_ (show TilesB _ g1 (tilesTo nt P.bs S.sb i) from Blk.keep TT.out BW)
    have C8:=hd_ (CC.out.belowB BW)
    have HGB:=hd_ (show wr.heap.size≠g1 by have:=CC.out.size;omega)
    clear BW TT CC M7
    generalize wr.alloc (.cells #[.slice b.A bk b.c,.int .i64 b.t,.bool b.ff,.bool b.it] 62)=w8 at BB T8 C8 ⊢
    generalize wr.heap.size=gb at BB HGB ⊢
    have HSC:=hd_ (show ∀ W':World,Chg w8 W' (fun k=>k=g1)->(W'.cell? ⟨gc,3,none⟩=some (.slice (some ⟨g1,0,none⟩) nt nt)∧W'.cell? ⟨w.heap.size+1+1,0,none⟩=some (.slice (some sa) pb S.cB)∧W'.cell? (sa.add i)=some (.int .i64 (tn:Int))∧W'.cell? ⟨gb,0,none⟩=some (.slice b.A bk b.c)∧W'.cell? ⟨gb,1,none⟩=some (.int .i64 b.t)∧W'.cell? ⟨gb,2,none⟩=some (.bool b.ff)∧W'.cell? ⟨gb,3,none⟩=some (.bool b.it)) from fun W' hW=>by
     have hB:=hW.blk BB.out HGB.out
     have hc:=(C8.out.trans hW).mono' (Y:=fun k=>k=g1) (fun k hk=>hk.elim id id)
     have hM:=HM6.out _ hc
     have hS:=hM.s.cell 0
     rw [HSA.out] at hS
     exact ⟨(HC6.out _ hc).cell 3,hS,(hM.q.cell (by rw [add_block];exact hsab)).trans v0,hB.cell 0,hB.cell 1,hB.cell 2,hB.cell 3⟩)
    refine wp_region_held_drew (S:=(fun w'=>w'.cell? ⟨gc,3,none⟩=some (.slice (some ⟨g1,0,none⟩) nt nt)∧w'.cell? ⟨w.heap.size+1+1,0,none⟩=some (.slice (some sa) pb S.cB)∧w'.cell? (sa.add i)=some (.int .i64 (tn:Int))∧w'.cell? ⟨gb,0,none⟩=some (.slice b.A bk b.c)∧w'.cell? ⟨gb,1,none⟩=some (.int .i64 b.t)∧w'.cell? ⟨gb,2,none⟩=some (.bool b.ff)∧w'.cell? ⟨gb,3,none⟩=some (.bool b.it))) (by kernel_rfl) ?_ (fun hh=>?_)
    ·(first|exact HSC.out _ (Chg.refl _ _)|exact HSC.out _ (Chg.of_below bd_ _)|exact HSC.out _ C11.out|exact HSC.out _ C10.out)
    refine tk_ 0 oMk19 (v:=?_) ?_ ?_
    rotate_left
    ·intro w hSw;(try dsimp only at hSw);go_simp;(try with_reducible rfl)
    try simp only [Act.put,la_,lz_,ls_]
    refine tk_ 1 oMk20 (v:=?_) ?_ ?_
    rotate_left
    ·intro w hSw;(try dsimp only at hSw);go_simp;(try with_reducible rfl)
    try simp only [Act.put,la_,lz_,ls_]
    refine tk_ 2 oMk21 (v:=?_) ?_ ?_
    rotate_left
    ·intro w hSw;(try dsimp only at hSw);go_simp;(try with_reducible rfl)
    try simp only [Act.put,la_,lz_,ls_]
    refine tk_ 3 oMk22 (v:=?_) ?_ ?_
    rotate_left
    ·intro w hSw;(try dsimp only at hSw);go_simp;(try with_reducible rfl)
    try simp only [Act.put,la_,lz_,ls_]
    refine tk_ 4 oMk23 (v:=?_) ?_ ?_
    rotate_left
    ·intro w hSw;(try dsimp only at hSw);go_simp;(try with_reducible rfl)
    try simp only [Act.put,la_,lz_,ls_]
    refine tk_ 5 oMk24 (v:=?_) ?_ ?_
    rotate_left
    ·intro w hSw;(try dsimp only at hSw);go_simp;(try with_reducible rfl)
    try simp only [Act.put,la_,lz_,ls_]
    refine tk_ 6 oMk25 (v:=?_) ?_ ?_
    rotate_left
    ·intro w hSw;(try dsimp only at hSw);go_simp;(try with_reducible rfl)
    try simp only [Act.put,la_,lz_,ls_]
    refine tk_ 7 oMk26 (v:=?_) ?_ ?_
    rotate_left
    ·intro w hSw;(try dsimp only at hSw);go_simp;(try with_reducible rfl)
    try simp only [Act.put,la_,lz_,ls_]
    refine tk_ 9 oMk28 (v:=?_) ?_ ?_
    rotate_left
    ·intro w hSw;(try dsimp only at hSw);go_simp;(try with_reducible rfl)
    try simp only [Act.put,la_,lz_,ls_]
    refine tk_ 10 oMk29 (v:=?_) ?_ ?_
    rotate_left
    ·intro w hSw;(try dsimp only at hSw);go_simp;(try with_reducible rfl)
    try simp only [Act.put,la_,lz_,ls_]
    refine tk_ 11 oMk30 (v:=?_) ?_ ?_
    rotate_left
    ·intro w hSw;(try dsimp only at hSw);go_simp;(try with_reducible rfl)
    try simp only [Act.put,la_,lz_,ls_]
    refine tk_ 12 oMk31 (v:=?_) ?_ ?_
    rotate_left
    ·intro w hSw;(try dsimp only at hSw);go_simp;(try with_reducible rfl)
    try simp only [Act.put,la_,lz_,ls_]
    refine rd_ [8] ?_
    refine AllReadyH.cons (o:=oMk27) rfl (fun K hK=>?_) AllReadyH.nil
    go_simp
    have HJ:=hd_ (HSPR.out w8.drew)
    with_reducible refine HJ.out.mono ?_
    rintro e w10 ⟨rfl,hb9⟩
    have hb9:=bt_ (show Below w8.heap.size w8 w8.drew from bd_) hb9
    have C10:=hd_ (Chg.of_below hb9 (fun k=>k=g1))
    have T10:=hd_ (show TilesB w10 g1 (tilesTo nt P.bs S.sb i) from Blk.keep T8.out hb9)
    clear hb9 HJ
    refine hK.out _ _ ?_ (fun hh=>?_)
    ·(first|exact HSC.out _ (Chg.refl _ _)|exact HSC.out _ (Chg.of_below bd_ _)|exact HSC.out _ C11.out|exact HSC.out _ C10.out)
    clear hK K
    try simp only [Act.put,la_,lz_,ls_]
    refine tk_ 13 oMk32 (v:=?_) ?_ ?_
    rotate_left
    ·intro w hSw;(try dsimp only at hSw);go_simp;(try with_reducible rfl)
    try simp only [Act.put,la_,lz_,ls_]
    refine tk_ 14 oMk33 (v:=?_) ?_ ?_
    rotate_left
    ·intro w hSw;(try dsimp only at hSw);go_simp;(try with_reducible rfl)
    try simp only [Act.put,la_,lz_,ls_]
    refine rd_ [15] ?_
    refine AllReadyH.cons (o:=oMk34) rfl (fun K hK=>?_) AllReadyH.nil
    obtain ⟨y0,y1,y2⟩:=TilesB.cells T10.out (k:=tn) (by rw [HTL.out];exact htn')
    have f0:=Blk.free T10.out (tn*3)
    have f1:=Blk.free T10.out (tn*3+1)
    have f2:=Blk.free T10.out (tn*3+2)
    go_simp
    have T11:=hd_ (TilesB.set T10.out (k:=tn) (by rw [HTL.out];exact htn') (tlOf b))
    have C11:=hd_ (((C10.out.setSame (i:=tn*3) (.int .i64 (sprd b:Int))).setSame (i:=tn*3+1) (.bool b.ff)).setSame (i:=tn*3+2) (.bool b.it))
    clear y0 y1 y2 f0 f1 f2
    refine hK.out _ _ ?_ (fun hh=>?_)
    ·(first|exact HSC.out _ (Chg.refl _ _)|exact HSC.out _ (Chg.of_below bd_ _)|exact HSC.out _ C11.out|exact HSC.out _ C10.out)
    clear hK K
    try simp only [Act.put,la_,lz_,ls_]
    refine wpAnyH_done (by kernel_rfl) ?_ _
    clear HSC
    go_wp2_with fail
    go_roundw
    case rel=>exact ⟨i+1,by omega,by go_num,by rw [HNX.out];exact T11.out,(C8.out.trans C11.out).mono' (fun k hk=>hk.elim id id)⟩
    case measure=>simp [intOf];omega
   obtain rfl:pb=i:=by omega
   have hlt:¬ (pb:Int)<(pb:Int):=by omega
   obtain ⟨wq,hwq⟩:∃ wq,wq=wr:=⟨_,rfl⟩
   subst hwq
   have HCAT:=hd_ (concat_any wq B cB m ls HM.out (by have h:=(HLS.out.later M7.out.q).row;rw [HM.out] at h;exact h) (HLS.out.later M7.out.q).all (by omega) (by rw [<- wayl_flat,List.length_flatten];exact Nat.le_trans HSUM.out (by omega)))
   go_wp2_with fail
   refine HCAT.out.mono ?_
   rintro e w8 ⟨A8,c8,rfl,hb8,ho8⟩
   clear HCAT
   have C8:=hd_ (CC.out.belowB hb8)
   have T8:=hd_ (show TilesB w8 g1 (tilesTo nt P.bs S.sb pb) from Blk.keep TT.out hb8)
   have M8:=hd_ (M7.out.keep hb8)
   have X8:=hd_ (HC6.out _ C8.out)
   have O8:=hd_ (HO6.out _ C8.out)
   have I8:=hd_ (HI6.out _ C8.out)
   have U8:=hd_ (HU6.out _ C8.out)
   have HSW:=hd_ (show ∀ s ∈ cat ls,0<=s∧s<(ne:Int) from fun s hs=>by
    unfold cat at hs
    obtain ⟨l,hl,hs⟩:=List.mem_flatMap.1 hs
    obtain ⟨k,hk,rfl⟩:=List.getElem_of_mem hl
    have h:=HRISE.out k (by unfold wayl;rw [List.length_map];exact hk)
    rw [wayl_get hk] at h
    exact rise_in h s hs)
   have HON:=hd_ (show onTo ne (cat ls)=onTo (edgesL W H T).length (wayl ls).flatten by rw [HNE.out,wayl_flat])
   have R8:=hd_ (Rd.of_own ho8)
   have HOW8:=hd_ ho8
   have hr6:(cat ls).length<=1000000:=by rw [<- wayl_flat,List.length_flatten];exact HSUM.out
   generalize cat ls=L at HSW HON R8 HOW8 hr6
   obtain ⟨r,hr⟩:∃ r,L.length=r:=⟨_,rfl⟩
   have HRL:=hd_ hr
   rw [hr] at R8 HOW8 hr6 ⊢
   clear hr ho8 hb8 TT CC M7
   have hs8:=C8.out.size
   have HB8:=hd_ (fun (W':World) (hW:Chg w8 W' (fun k=>k=g2))=>M8.out.chg hW (fun k hk=>by omega))
   have HX8:=hd_ (fun (W':World) (hW:Chg w8 W' (fun k=>k=g2))=>hW.blk X8.out hc2)
   have HR8:=hd_ (show ∀ W':World,Chg w8 W' (fun k=>k=g2)->Rd W' 1 A8 r c8 (ints L) from fun W' hW=>R8.out.chg hW (fun g e hk=>own_other HOW8.out O8.out (by decide) (by rw [own_blk,e,hk])))
   have O8:=hd_ (show BitsB w8 g2 (onTo ne (L.take 0)) from O8.out)
   go_wp2_with fail
   go_loopw [94] (fun v94 wx=>∃ k:Nat,k<=r∧v94=.int .i64 (k:Int)∧BitsB wx g2 (onTo ne (L.take k))∧Chg w8 wx (fun k=>k=g2)) (fun v94 _=>r-(intOf v94).toNat)
   case atStart=>exact ⟨0,by omega,rfl,O8.out,Chg.refl _ _⟩
   case round =>
    clear O8
    obtain ⟨k,hk,rfl,ho,hc⟩:=hrel
    have OO:=hd_ ho
    have CC:=hd_ hc
    clear ho hc
    by_cases hkr:k<r
    case pos =>
     have hkr':(k:Int)<(r:Int):=by omega
     obtain ⟨ca,hca,-,l0⟩:=(HR8.out _ CC.out).int hkr
     have hkl:k<L.length:=by rw [HRL.out];exact hkr
     have hsw:=HSW.out (L.getD k 0) (by rw [List.getD_eq_getElem?_getD,List.getElem?_eq_getElem hkl];exact List.getElem_mem hkl)
     have HNX:=hd_ (show onTo ne (L.take (k+1))=(onTo ne (L.take k)).set (L.getD k 0).toNat true by
      rw [List.take_succ_eq_append_getElem hkl,onTo_snoc,List.getD_eq_getElem?_getD,List.getElem?_eq_getElem hkl];rfl)
     generalize L.getD k 0=s at l0 hsw HNX
     obtain ⟨sn,rfl⟩:∃ sn:Nat,s=(sn:Int):=⟨s.toNat,by omega⟩
     rw [Int.toNat_natCast] at HNX
     have hsn:sn<ne:=by omega
     have hsn':=hsw.2
     have t0:=BitsB.at_ OO.out (a:=sn) (by rw [onTo_len];exact hsn)
     have t1:=Blk.free OO.out sn
     have x4:=(HX8.out _ CC.out).cell 4
     subst hca
     clear hkl hsw
     go_wp2_with fail
     go_roundw
     case rel=>exact ⟨k+1,by omega,by go_num,by rw [HNX.out];exact BitsB.set OO.out sn true,CC.out.setSame _⟩
     case measure=>simp [intOf];omega
    obtain rfl:r=k:=by omega
    have hlt:¬ (r:Int)<(r:Int):=by omega
    have M9:=hd_ (HB8.out _ CC.out)
    have X9:=hd_ (HX8.out _ CC.out)
    obtain ⟨⟨k0,k1,k2,k3,k4,k5,k6⟩,-⟩:=cells7 X9.out
    obtain ⟨⟨z0,z1,z2,z3,z4,z5,z6⟩,s0,s1,s2,s3,s4,s5,s6⟩:=cells7 M9.out.r
    go_wp2_with fail
    rw [<- HRR.out]
    have I9:=CC.out.own I8.out (fun g e hk=>own_other I8.out O8.out (by decide) (by rw [e,hk]))
    have U9:=CC.out.own U8.out (fun g e hk=>own_other U8.out O8.out (by decide) (by rw [e,hk]))
    have T9:=CC.out.blk T8.out (fun e=>h12 e.symm)
    have hOO:=OO.out
    rw [<- HRL.out,List.take_length] at hOO
    obtain rfl:=HNI.out
    obtain rfl:=HNO.out
    have h:=fun (tmps:Array Value) (h8:tmps.getD 8 undef=.pointer (some ⟨w.heap.size+1+1+1,0,none⟩)) (h9:tmps.getD 9 undef=.int .i64 0)=>mk_end (fn:=Tryz.f7) rfl (P:=P) (S:=S) (wy:=wayl ls) (w:=w) ⟨W,H,T,some ⟨g1,0,none⟩,nt,tilesTo nt P.bs S.sb pb,some ⟨g2,0,none⟩,ne,onTo ne L,A3,c3,S.si,A4,c4,S.so⟩ 0 tmps M9.out.r M9.out.q (by omega) (fun W' hW=>⟨by have h:=rd_of_blk (hW.blk T9 (fun e=>by omega)) 3 nt (by rw [tiles3_length,tilesTo_len]);simpa only [tilesTo_len] using h,by have h:=rd_of_blk (hW.blk hOO (fun e=>by omega)) 1 ne (by rw [bools_length,Nat.mul_one,onTo_len]);simpa only [onTo_len] using h,Rd.of_own (hW.own I9 (fun g e hk=>by have:=own_base I9 e;omega)),Rd.of_own (hW.own U9 (fun g e hk=>by have:=own_base U9 e;omega))⟩)
     (.inr ⟨rfl,HX.out,HD.out,⟨⟨rfl,rfl,rfl⟩,by rw [HNT.out,Int.toNat_natCast,HPB.out],HON.out,rfl,rfl⟩⟩) h8 h9
    simp only [tilesTo_len,onTo_len] at h
    exact h _ rfl rfl
end Go.Proofs.YtmkiphadkmodnaaGreat
