/- BfM, 25 -/
import Derived.Deep.RegionHeld3
import Derived.BigRegion
import Derived.Laws.Rows
import Derived.Test.YtmkiphadkmodnaaGreatZBfM24
import Derived.Test.YtmkiphadkmodnaaGreatZBfM21
import Derived.Test.YtmkiphadkmodnaaGreatZBfM0
set_option linter.all false
set_option maxRecDepth 100000
set_option maxHeartbeats 8000000
namespace Go.Proofs.YtmkiphadkmodnaaGreat
open Go.RowKit
abbrev Three31 (b:Nat) (w:World):Prop:=w.cell? ⟨b,0,none⟩=some (.int .i64 1)∧w.cell? ⟨b,1,none⟩=some (.int .i64 1)∧w.cell? ⟨b,2,none⟩=some (.int .i64 1)
theorem Three31.alloc {b:Nat} {w:World} (h:Three31 b w) (hb:b<w.heap.size) (o:Obj):Three31 b (w.alloc o) :=
 ⟨(World.cell?_alloc_lt w o _ hb).trans h.1,(World.cell?_alloc_lt w o _ hb).trans h.2.1,(World.cell?_alloc_lt w o _ hb).trans h.2.2⟩
theorem Three31.drew {b:Nat} {w:World} (h:Three31 b w):Three31 b w.drew:=h
theorem Three31.store {b:Nat} {w:World} (h:Three31 b w) (g i:Nat) (v:Value) (hne:b≠g):Three31 b (w.setCell ⟨g,i,none⟩ v) :=
 have k:∀ j:Nat,(⟨g,i,none⟩:Addr)≠⟨b,j,none⟩:=fun j e=>hne (by injection e with e1;exact e1.symm)
 ⟨(World.cell?_setCell_other w _ _ v (k 0)).trans h.1,(World.cell?_setCell_other w _ _ v (k 1)).trans h.2.1,(World.cell?_setCell_other w _ _ v (k 2)).trans h.2.2⟩
theorem own_cap {w:World} {base:Nat} {e:TypeId} {size n c:Nat} {A:Option Addr} {xs:List Value} (h:w.ownsRow base e size (.slice A n c) n xs):c<=maxLen:=by
 rcases h.2 with ⟨hv,hn⟩|⟨g,cap,cur,hv,hg,hh,hc,hm,-⟩
 ·injection hv with _ _ h3;subst h3;unfold maxLen;omega
 ·injection hv with _ _ h3;subst h3;exact hm
theorem okB111:okA 1 1 1:=by unfold okA;omega
theorem edgesB111:(edgesL 1 1 1).length=16:=by
 have h:=rawL_count okB111
 have e:(edgesL 1 1 1).length=(rawL 1 1 1).length:=by unfold edgesL;rw [sortP_length]
 rw [e]
 have:((rawL 1 1 1).length:Int)=16:=by rw [h];decide
 omega
def bare31C (g1 g2:Nat):Cfg:={ W:=1,H:=1,T:=1,AT:=some ⟨g1,0,none⟩,cT:=1,tiles:=[(0,false,false)],AO:=some ⟨g2,0,none⟩,cO:=16,on:=List.replicate 16 false,AI:=none,cI:=0,ins:=[],AU:=none,cU:=0,outs:=[] }
def wrong31C (g1 g2 g3:Nat):Cfg:={ bare31C g1 g2 with AI:=some ⟨g3,0,none⟩,cI:=2,ins:=[0,0] }
theorem bare31_in {W:World} {g1 g2:Nat} (h1:Blk W g1 65 #[.int .i64 0,.bool false,.bool false]) (h2:Blk W g2 4 #[.bool false,.bool false,.bool false,.bool false,.bool false,.bool false,.bool false,.bool false,.bool false,.bool false,.bool false,.bool false,.bool false,.bool false,.bool false,.bool false]):(bare31C g1 g2).In W:=by
 have add0:∀ g j:Nat,(⟨g,0,none⟩:Addr).add j=⟨g,j,none⟩:=fun g j=>by rw [Addr.add_lit];simp
 refine ⟨⟨rfl,Nat.le_refl _,(fun h=>by cases h),?_⟩,⟨rfl,Nat.le_refl _,(fun h=>by cases h),?_⟩,Rd.empty,Rd.empty⟩
 ·intro j u hj
  exact ⟨_,rfl,h1.lt,by rw [show tiles3 (bare31C g1 g2).tiles=[.int .i64 0,.bool false,.bool false] from rfl] at hj;rw [add0,h1.cell j,List.getElem?_toArray];exact hj⟩
 ·intro j u hj
  exact ⟨_,rfl,h2.lt,by rw [show bools (bare31C g1 g2).on=[.bool false,.bool false,.bool false,.bool false,.bool false,.bool false,.bool false,.bool false,.bool false,.bool false,.bool false,.bool false,.bool false,.bool false,.bool false,.bool false] from rfl] at hj;rw [add0,h2.cell j,List.getElem?_toArray];exact hj⟩
theorem results_cell1 {fn:Func} (h:fn.results=#[.cell 2 37]) (tmps:Array Value) (w:World) (g:Nat) (cs:Array Value) (hp:tmps.getD 2 undef=.pointer (some ⟨g,0,none⟩)) (hg:Blk w g 37 cs) (hs:(Tryz.prog.info? 37).map (·.size)=some cs.size:=by kernel_rfl) :
  (results fn tmps).run Tryz.prog w=.ok (.agg cs) w:=by
 have hp':tmps[2]?.getD undef=.pointer (some ⟨g,0,none⟩):=by simpa using hp
 simp [results,h,hp',asAddr,run_loadVar_row w g 37 37 cs (0,0) _ hg Tryz.underlying37 rfl hs]
def BARE31 (w:World) (e:Ending) (w':World):Prop:=∃ g1 g2,e=.returned (.agg #[.int .i64 1,.int .i64 1,.int .i64 1,.slice (some ⟨g1,0,none⟩) 1 1,.slice (some ⟨g2,0,none⟩) 16 16,.slice none 0 0,.slice none 0 0])∧(bare31C g1 g2).In w'∧Below w.heap.size w w'
theorem bare31_TO (w w1:World) (hB:Below w.heap.size w w1) (HB:Blk w1 (w.heap.size+1) 37 #[.int .i64 0,.int .i64 0,.int .i64 0,.slice none 0 0,.slice none 0 0,.slice none 0 0,.slice none 0 0]) (tmps:Array Value) (hp:tmps.getD 2 undef=.pointer (some ⟨w.heap.size+1,0,none⟩)) :
  bodyPost Tryz.prog Tryz.f10 (BARE31 w) .ret { tmps:=tmps,defers:=[] } ((((((((((w1.setCell ⟨w.heap.size+1,0,none⟩ (.int .i64 1)).setCell ⟨w.heap.size+1,1,none⟩ (.int .i64 1)).setCell ⟨w.heap.size+1,2,none⟩ (.int .i64 1)).setCell ⟨w.heap.size+1,3,none⟩ (.slice (some ⟨w1.heap.size,0,none⟩) 1 1)).setCell ⟨w.heap.size+1,4,none⟩ (.slice (some ⟨w1.heap.size+1,0,none⟩) 16 16)).setCell ⟨w.heap.size+1,5,none⟩ (.slice none 0 0)).setCell ⟨w.heap.size+1,6,none⟩ (.slice none 0 0)).alloc (.cells #[.int .i64 0,.bool false,.bool false] 65)).alloc (.cells #[.bool false,.bool false,.bool false,.bool false,.bool false,.bool false,.bool false,.bool false,.bool false,.bool false,.bool false,.bool false,.bool false,.bool false,.bool false,.bool false] 4)).drew):=by
 have hn:(((((((w1.setCell ⟨w.heap.size+1,0,none⟩ (.int .i64 1)).setCell ⟨w.heap.size+1,1,none⟩ (.int .i64 1)).setCell ⟨w.heap.size+1,2,none⟩ (.int .i64 1)).setCell ⟨w.heap.size+1,3,none⟩ (.slice (some ⟨w1.heap.size,0,none⟩) 1 1)).setCell ⟨w.heap.size+1,4,none⟩ (.slice (some ⟨w1.heap.size+1,0,none⟩) 16 16)).setCell ⟨w.heap.size+1,5,none⟩ (.slice none 0 0)).setCell ⟨w.heap.size+1,6,none⟩ (.slice none 0 0)).heap.size=w1.heap.size:=by simp
 have h7:=set7 HB rfl (.int .i64 1) (.int .i64 1) (.int .i64 1) (.slice (some ⟨w1.heap.size,0,none⟩) 1 1) (.slice (some ⟨w1.heap.size+1,0,none⟩) 16 16) (.slice none 0 0) (.slice none 0 0)
 have hb7:=below7 hB (Nat.le_succ _) (.int .i64 1) (.int .i64 1) (.int .i64 1) (.slice (some ⟨w1.heap.size,0,none⟩) 1 1) (.slice (some ⟨w1.heap.size+1,0,none⟩) 16 16) (.slice none 0 0) (.slice none 0 0)
 generalize (((((((w1.setCell ⟨w.heap.size+1,0,none⟩ (.int .i64 1)).setCell ⟨w.heap.size+1,1,none⟩ (.int .i64 1)).setCell ⟨w.heap.size+1,2,none⟩ (.int .i64 1)).setCell ⟨w.heap.size+1,3,none⟩ (.slice (some ⟨w1.heap.size,0,none⟩) 1 1)).setCell ⟨w.heap.size+1,4,none⟩ (.slice (some ⟨w1.heap.size+1,0,none⟩) 16 16)).setCell ⟨w.heap.size+1,5,none⟩ (.slice none 0 0)).setCell ⟨w.heap.size+1,6,none⟩ (.slice none 0 0))=W0 at hn h7 hb7
 have ha:=Blk.made W0 65 #[.int .i64 0,.bool false,.bool false]
 have hb:=Blk.made (W0.alloc (.cells #[.int .i64 0,.bool false,.bool false] 65)) 4 #[.bool false,.bool false,.bool false,.bool false,.bool false,.bool false,.bool false,.bool false,.bool false,.bool false,.bool false,.bool false,.bool false,.bool false,.bool false,.bool false]
 rw [hn] at ha
 rw [World.size_alloc,hn] at hb
 have hr:=results_cell1 Tryz.results10 tmps ((W0.alloc (.cells #[.int .i64 0,.bool false,.bool false] 65)).alloc (.cells #[.bool false,.bool false,.bool false,.bool false,.bool false,.bool false,.bool false,.bool false,.bool false,.bool false,.bool false,.bool false,.bool false,.bool false,.bool false,.bool false] 4)).drew (w.heap.size+1) _ hp ((h7.alloc _).alloc _)
 refine bodyPost_ret hr rfl ⟨w1.heap.size,w1.heap.size+1,rfl,?_,?_⟩
 ·exact bare31_in (W:=((W0.alloc (.cells #[.int .i64 0,.bool false,.bool false] 65)).alloc (.cells #[.bool false,.bool false,.bool false,.bool false,.bool false,.bool false,.bool false,.bool false,.bool false,.bool false,.bool false,.bool false,.bool false,.bool false,.bool false,.bool false] 4)).drew) (ha.alloc _) hb
 ·exact below_drewN (bt_ (bt_ hb7 (bn_ _ _)) (bn_ _ _)) 1
theorem bare31_OT (w w1:World) (hB:Below w.heap.size w w1) (HB:Blk w1 (w.heap.size+1) 37 #[.int .i64 0,.int .i64 0,.int .i64 0,.slice none 0 0,.slice none 0 0,.slice none 0 0,.slice none 0 0]) (tmps:Array Value) (hp:tmps.getD 2 undef=.pointer (some ⟨w.heap.size+1,0,none⟩)) :
  bodyPost Tryz.prog Tryz.f10 (BARE31 w) .ret { tmps:=tmps,defers:=[] } ((((((((((w1.setCell ⟨w.heap.size+1,0,none⟩ (.int .i64 1)).setCell ⟨w.heap.size+1,1,none⟩ (.int .i64 1)).setCell ⟨w.heap.size+1,2,none⟩ (.int .i64 1)).setCell ⟨w.heap.size+1,3,none⟩ (.slice (some ⟨w1.heap.size+1,0,none⟩) 1 1)).setCell ⟨w.heap.size+1,4,none⟩ (.slice (some ⟨w1.heap.size,0,none⟩) 16 16)).setCell ⟨w.heap.size+1,5,none⟩ (.slice none 0 0)).setCell ⟨w.heap.size+1,6,none⟩ (.slice none 0 0)).alloc (.cells #[.bool false,.bool false,.bool false,.bool false,.bool false,.bool false,.bool false,.bool false,.bool false,.bool false,.bool false,.bool false,.bool false,.bool false,.bool false,.bool false] 4)).alloc (.cells #[.int .i64 0,.bool false,.bool false] 65)).drew):=by
 have hn:(((((((w1.setCell ⟨w.heap.size+1,0,none⟩ (.int .i64 1)).setCell ⟨w.heap.size+1,1,none⟩ (.int .i64 1)).setCell ⟨w.heap.size+1,2,none⟩ (.int .i64 1)).setCell ⟨w.heap.size+1,3,none⟩ (.slice (some ⟨w1.heap.size+1,0,none⟩) 1 1)).setCell ⟨w.heap.size+1,4,none⟩ (.slice (some ⟨w1.heap.size,0,none⟩) 16 16)).setCell ⟨w.heap.size+1,5,none⟩ (.slice none 0 0)).setCell ⟨w.heap.size+1,6,none⟩ (.slice none 0 0)).heap.size=w1.heap.size:=by simp
 have h7:=set7 HB rfl (.int .i64 1) (.int .i64 1) (.int .i64 1) (.slice (some ⟨w1.heap.size+1,0,none⟩) 1 1) (.slice (some ⟨w1.heap.size,0,none⟩) 16 16) (.slice none 0 0) (.slice none 0 0)
 have hb7:=below7 hB (Nat.le_succ _) (.int .i64 1) (.int .i64 1) (.int .i64 1) (.slice (some ⟨w1.heap.size+1,0,none⟩) 1 1) (.slice (some ⟨w1.heap.size,0,none⟩) 16 16) (.slice none 0 0) (.slice none 0 0)
 generalize (((((((w1.setCell ⟨w.heap.size+1,0,none⟩ (.int .i64 1)).setCell ⟨w.heap.size+1,1,none⟩ (.int .i64 1)).setCell ⟨w.heap.size+1,2,none⟩ (.int .i64 1)).setCell ⟨w.heap.size+1,3,none⟩ (.slice (some ⟨w1.heap.size+1,0,none⟩) 1 1)).setCell ⟨w.heap.size+1,4,none⟩ (.slice (some ⟨w1.heap.size,0,none⟩) 16 16)).setCell ⟨w.heap.size+1,5,none⟩ (.slice none 0 0)).setCell ⟨w.heap.size+1,6,none⟩ (.slice none 0 0))=W0 at hn h7 hb7
 have ha:=Blk.made W0 4 #[.bool false,.bool false,.bool false,.bool false,.bool false,.bool false,.bool false,.bool false,.bool false,.bool false,.bool false,.bool false,.bool false,.bool false,.bool false,.bool false]
 have hb:=Blk.made (W0.alloc (.cells #[.bool false,.bool false,.bool false,.bool false,.bool false,.bool false,.bool false,.bool false,.bool false,.bool false,.bool false,.bool false,.bool false,.bool false,.bool false,.bool false] 4)) 65 #[.int .i64 0,.bool false,.bool false]
 rw [hn] at ha
 rw [World.size_alloc,hn] at hb
 have hr:=results_cell1 Tryz.results10 tmps ((W0.alloc (.cells #[.bool false,.bool false,.bool false,.bool false,.bool false,.bool false,.bool false,.bool false,.bool false,.bool false,.bool false,.bool false,.bool false,.bool false,.bool false,.bool false] 4)).alloc (.cells #[.int .i64 0,.bool false,.bool false] 65)).drew (w.heap.size+1) _ hp ((h7.alloc _).alloc _)
 refine bodyPost_ret hr rfl ⟨w1.heap.size+1,w1.heap.size,rfl,?_,?_⟩
 ·exact bare31_in (W:=((W0.alloc (.cells #[.bool false,.bool false,.bool false,.bool false,.bool false,.bool false,.bool false,.bool false,.bool false,.bool false,.bool false,.bool false,.bool false,.bool false,.bool false,.bool false] 4)).alloc (.cells #[.int .i64 0,.bool false,.bool false] 65)).drew) hb (ha.alloc _)
 ·exact below_drewN (bt_ (bt_ hb7 (bn_ _ _)) (bn_ _ _)) 1
theorem bare31_any (w:World) :
  Calls Tryz.prog 10 #[.agg #[.int .i64 1,.int .i64 1,.int .i64 1]] w (BARE31 w):=by
 have hmk1:∀ w:World,(Instr.makeSlice 34 (.int .i64 1) (.int .i64 1)).run Tryz.prog w=.ok (.slice (some ⟨w.heap.size,0,none⟩) 1 1) (w.alloc (.cells #[.int .i64 0,.bool false,.bool false] 65)):=fun _=>by kernel_rfl
 have hmk2:∀ w:World,(Instr.makeSlice 35 (.int .i64 16) (.int .i64 16)).run Tryz.prog w=.ok (.slice (some ⟨w.heap.size,0,none⟩) 16 16) (w.alloc (.cells #[.bool false,.bool false,.bool false,.bool false,.bool false,.bool false,.bool false,.bool false,.bool false,.bool false,.bool false,.bool false,.bool false,.bool false,.bool false,.bool false] 4)):=fun _=>by kernel_rfl
 go_enter Tryz.func10,Tryz.ntmps10
 go_wp2_with fail
 refine (edges_yes _ _ _ _ okB111).mono ?_
 rintro e w1 ⟨v,rfl,hb1,hown⟩
 rw [edgesB111] at hown
 obtain ⟨AA,c,hv⟩:=own_slice hown
 subst hv
 clear hown
 have b0:w1.cell? ⟨w.heap.size,0,none⟩=some (.int .i64 1):=(hb1.cell (p:=⟨w.heap.size,0,none⟩) (by simp;omega)).trans (by go_simp)
 have b1:w1.cell? ⟨w.heap.size,1,none⟩=some (.int .i64 1):=(hb1.cell (p:=⟨w.heap.size,1,none⟩) (by simp;omega)).trans (by go_simp)
 have b2:w1.cell? ⟨w.heap.size,2,none⟩=some (.int .i64 1):=(hb1.cell (p:=⟨w.heap.size,2,none⟩) (by simp;omega)).trans (by go_simp)
 have hB1:Below w.heap.size w w1:=((((Below.refl w.heap.size w).alloc (Nat.le_refl _) _).alloc (by simp) _).trans (hb1.mono (by simp;omega)))
 have HB:Blk w1 (w.heap.size+1) 37 #[.int .i64 0,.int .i64 0,.int .i64 0,.slice none 0 0,.slice none 0 0,.slice none 0 0,.slice none 0 0]:=by
  have h:=(Blk.made (w.alloc (.cells #[.int .i64 1,.int .i64 1,.int .i64 1] 23)) 37 #[.int .i64 0,.int .i64 0,.int .i64 0,.slice none 0 0,.slice none 0 0,.slice none 0 0,.slice none 0 0])
  rw [World.size_alloc] at h
  exact h.below hb1 (by simp)
 have hs1:w.heap.size+1<w1.heap.size:=by have:=hb1.size;simp at this;omega
 have HT:Three31 w.heap.size w1:=⟨b0,b1,b2⟩
 have hs0:w.heap.size<w1.heap.size:=by omega
 have hs0b:w.heap.size+1<w1.heap.size+1:=by omega
 have hs0c:w.heap.size+1<w1.heap.size+1+1:=by omega
 have hs0d:w.heap.size+1<w1.heap.size+2:=by omega
 obtain ⟨r0,r1,r2,r3,r4,r5,r6⟩:=zero_cells HB
 have hm0:max (0:Int) (min (IntKind.i64.wrap 1) 1000)=1:=by decide
 obtain ⟨f0,f1,f2,f3,f4,f5,f6⟩:=free_cells HB
 go_wp2_with fail
 go_region_held3 (fun w'=>w'.cell? ⟨w.heap.size,0,none⟩=some (.int .i64 1)∧w'.cell? ⟨w.heap.size,1,none⟩=some (.int .i64 1)∧w'.cell? ⟨w.heap.size,2,none⟩=some (.int .i64 1)) ((repeat' (first|(with_reducible exact HT)|(with_reducible refine Three31.store ?_ _ _ _ (by omega))|(with_reducible refine Three31.drew ?_)|(with_reducible refine Three31.alloc ?_ (by first|omega|(simp only [World.alloc_size,World.drew_size];omega)|(simp;omega)) _)))) (fail)
 all_goals go_wp2_with fail
 all_goals clear hmk1 hmk2 HT hs0b hs0c hs0d
 all_goals first
  | (with_reducible refine bare31_TO w w1 hB1 HB _ ?_;simp)
  | (with_reducible refine bare31_OT w w1 hB1 HB _ ?_;simp)
theorem bare31_ok (g1 g2:Nat):(bare31C g1 g2).ok :=
 ⟨okB111,⟨fun p hp=>by simp [bare31C] at hp,by simp [bare31C]⟩,by simp [bare31C],by simp only [bare31C];rw [edgesB111];simp,by simp [bare31C,oddB]⟩
theorem bare31_few (g1 g2:Nat):(bare31C g1 g2).few:=by unfold Cfg.few;simp [bare31C]
theorem wrong31_no (g1 g2 g3:Nat):¬ (wrong31C g1 g2 g3).ok:=fun h=>by
 have:=h.2.1.2
 simp [wrong31C,bare31C] at this
theorem wrong31_few (g1 g2 g3:Nat):(wrong31C g1 g2 g3).few:=by unfold Cfg.few;simp [wrong31C,bare31C]
def liveB:List Nat:=[70,71,66,49,1,1,1,0,0,0,0,0,0,0,0,0]++four (sumB [70,71,66,49,1,1,1,0,0,0,0,0,0,0,0,0])
theorem live_bytes (g1 g2:Nat):(bare31C g1 g2).bytes=liveB:=by
 show putB 1 1 1 [(0,false,false)] (List.replicate 16 false) [] []=liveB
 decide +kernel
theorem live_len:liveB.length=20:=by decide +kernel
theorem live_lt:∀ x ∈ liveB,x<256:=by decide +kernel
theorem live_0:liveB.getD 0 0=70:=by decide +kernel
theorem live_4:liveB.getD 4 0=1:=by decide +kernel
theorem live_got (g1 g2:Nat):getE liveB=0∧∀ D:Cfg,Told liveB D->sameP (bare31C g1 g2) D:=by
 have h:=get_put (bare31_ok g1 g2) (by simp [bare31C]) (by simp [bare31C])
 rwa [live_bytes] at h
theorem live_none:getE []=310:=by decide +kernel
theorem live_sum:sumB [97]=3826002220:=by decide +kernel
def noneC:Cfg:={ W:=0,H:=0,T:=0,AT:=none,cT:=0,tiles:=[],AO:=none,cO:=0,on:=[],AI:=none,cI:=0,ins:=[],AU:=none,cU:=0,outs:=[] }
theorem none_in (w:World):noneC.In w:=⟨Rd.empty,Rd.empty,Rd.empty,Rd.empty⟩
def GotIs (l:List Nat) (D:Cfg):Prop:=(getE l≠0->D=noneC)∧(getE l=0->Told l D)
def CfgPair (l:List Nat) (x:Int) (w:World) (e:Ending) (w':World):Prop :=
 ∃ D:Cfg,e=.returned (.tuple #[.agg #[.int .i64 D.W,.int .i64 D.H,.int .i64 D.T,.slice D.AT D.tiles.length D.cT,.slice D.AO D.on.length D.cO,.slice D.AI D.ins.length D.cI,.slice D.AU D.outs.length D.cU],.int .i64 x])∧GotIs l D∧Below w.heap.size w w'∧D.In w'
theorem get_pair {l:List Nat} {w w':World} {e:Ending} (h:GetOut l w e w'):CfgPair l (getE l) w e w':=by
 obtain ⟨hb,(⟨hne,rfl⟩|⟨he,C,hT,hin,rfl⟩)⟩:=h
 ·exact ⟨noneC,rfl,⟨fun _=>rfl,fun h=>absurd h hne⟩,hb,none_in _⟩
 ·exact ⟨C,by rw [he],⟨fun h=>absurd he h,fun _=>hT⟩,hb,hin⟩
theorem bget_pair (A:Option Addr) (n c:Nat) (l:List Nat) (w:World) (hr:Rd w 1 A n c (bys l)) (hl:∀ x ∈ l,x<256) (hn:n<=5000) (hc:c<=maxLen) (hcase:n<15∨getE l=0) :
  Calls Tryz.prog 12 #[.slice A n c] w (CfgPair l (getE l) w):=by
 have hln:l.length=n:=by have:=hr.len;rw [bys_length] at this;omega
 rcases hcase with h|h
 ·exact Calls.mono (bget_short A n c l w hln h) fun e w' h=>get_pair h
 ·have h1:¬ (l.length<15∨l.take 4≠magicB):=fun hh=>by unfold getE at h;rw [if_pos hh] at h;cases h
  have h2:okA (gW l) (gH l) (gT l):=Classical.byContradiction fun hh=>by unfold getE at h;rw [if_neg h1,if_pos hh] at h;cases h
  have h3:l.length=sizeB l (gN l)+4:=Classical.byContradiction fun hh=>by unfold getE at h;rw [if_neg h1,if_neg (fun e=>e h2),if_pos hh] at h;cases h
  have h4:l.drop (sizeB l (gN l))=four (sumB (l.take (sizeB l (gN l)))):=Classical.byContradiction fun hh=>by unfold getE at h;rw [if_neg h1,if_neg (fun e=>e h2),if_neg (fun e=>e h3),if_pos hh] at h;cases h
  cases A with
  | none=>exfalso;have h5:=hr.nil rfl;have h6:=hr.cap;omega
  | some a=>exact Calls.mono (bget_long a n c l w hr hl hn hc (by omega) (Classical.byContradiction fun e=>h1 (.inr e)) h2 (by omega) h4) fun e w' h=>get_pair h
theorem got_few {l:List Nat} {D:Cfg} (h:GotIs l D) (hl:l.length<=5000):D.few:=by
 by_cases he:getE l=0
 ·obtain ⟨h15,hm,hA,hz,-⟩:=getE_zero he
  have hT:=h.2 he
  unfold Cfg.few
  rw [hT.tiles,hT.on,hT.ins,hT.outs]
  simp only [decT,decO,decI,decU,tilesAt_len,bitsAt_len,numsAt_len]
  unfold sizeB atP atS at hz
  unfold okA at hA
  have hn:=gT_mul l
  have h1:gW l*gH l<=16*16:=Int.mul_le_mul (by omega) (by omega) (by omega) (by omega)
  omega
 ·rw [h.1 he];unfold Cfg.few noneC;simp
theorem put_bare (g1 g2:Nat) (w:World) (hin:(bare31C g1 g2).In w) :
  Calls Tryz.prog 11 #[.agg #[.int .i64 1,.int .i64 1,.int .i64 1,.slice (some ⟨g1,0,none⟩) 1 1,.slice (some ⟨g2,0,none⟩) 16 16,.slice none 0 0,.slice none 0 0]] w fun e w'=>∃ A c,e=.returned (.tuple #[.slice A 20 c,.int .i64 0])∧Below w.heap.size w w'∧w'.ownsRow w.heap.size 5 1 (.slice A 20 c) 20 (bys liveB):=by
 have h:=bput_yes (bare31C g1 g2) w hin (bare31_few g1 g2) (bare31_ok g1 g2)
 unfold BPUT BytesOut at h
 rw [live_bytes,live_len] at h
 exact h
theorem check_bare (g1 g2:Nat) (w:World) (hin:(bare31C g1 g2).In w) :
  Calls Tryz.prog 14 #[.agg #[.int .i64 1,.int .i64 1,.int .i64 1,.slice (some ⟨g1,0,none⟩) 1 1,.slice (some ⟨g2,0,none⟩) 16 16,.slice none 0 0,.slice none 0 0]] w fun e w'=>e=.returned (.int .i64 0)∧Below w.heap.size w w':=by
 have h:=bcheck_any (bare31C g1 g2) w hin (bare31_few g1 g2)
 unfold BCH at h
 rw [show (bare31C g1 g2).E=0 from if_pos (bare31_ok g1 g2)] at h
 exact h
theorem check_wrong (g1 g2 g3:Nat) (w:World) (hin:(wrong31C g1 g2 g3).In w) :
  Calls Tryz.prog 14 #[.agg #[.int .i64 1,.int .i64 1,.int .i64 1,.slice (some ⟨g1,0,none⟩) 1 1,.slice (some ⟨g2,0,none⟩) 16 16,.slice (some ⟨g3,0,none⟩) 2 2,.slice none 0 0]] w fun e w'=>e=.returned (.int .i64 1)∧Below w.heap.size w w':=by
 have h:=bcheck_any (wrong31C g1 g2 g3) w hin (wrong31_few g1 g2 g3)
 unfold BCH at h
 rw [show (wrong31C g1 g2 g3).E=1 from if_neg (wrong31_no g1 g2 g3)] at h
 exact h
theorem same_bare (g1 g2:Nat) (w:World) (hin:(bare31C g1 g2).In w) :
  Calls Tryz.prog 15 #[.agg #[.int .i64 1,.int .i64 1,.int .i64 1,.slice (some ⟨g1,0,none⟩) 1 1,.slice (some ⟨g2,0,none⟩) 16 16,.slice none 0 0,.slice none 0 0],.agg #[.int .i64 1,.int .i64 1,.int .i64 1,.slice (some ⟨g1,0,none⟩) 1 1,.slice (some ⟨g2,0,none⟩) 16 16,.slice none 0 0,.slice none 0 0]] w fun e w'=>e=.returned (.bool true)∧Below w.heap.size w w' :=
 bsame_all (bare31C g1 g2) (bare31C g1 g2) w hin hin (bare31_few g1 g2) (bare31_few g1 g2) rfl rfl rfl rfl rfl rfl rfl
theorem same_wrong (g1 g2 g3:Nat) (w:World) (hin:(bare31C g1 g2).In w) (hin2:(wrong31C g1 g2 g3).In w) :
  Calls Tryz.prog 15 #[.agg #[.int .i64 1,.int .i64 1,.int .i64 1,.slice (some ⟨g1,0,none⟩) 1 1,.slice (some ⟨g2,0,none⟩) 16 16,.slice none 0 0,.slice none 0 0],.agg #[.int .i64 1,.int .i64 1,.int .i64 1,.slice (some ⟨g1,0,none⟩) 1 1,.slice (some ⟨g2,0,none⟩) 16 16,.slice (some ⟨g3,0,none⟩) 2 2,.slice none 0 0]] w fun e w'=>e=.returned (.bool false)∧Below w.heap.size w w' :=
 bsame_ins (bare31C g1 g2) (wrong31C g1 g2 g3) w hin hin2 (bare31_few g1 g2) (wrong31_few g1 g2 g3) rfl rfl rfl rfl rfl (fun h=>by simp [bare31C,wrong31C] at h)
theorem Blk.cfg {w:World} {g:Nat} {C:Cfg} (h:Blk w g 37 C.cells):w.cell? ⟨g,0,none⟩=some (.int .i64 C.W)∧w.cell? ⟨g,1,none⟩=some (.int .i64 C.H)∧w.cell? ⟨g,2,none⟩=some (.int .i64 C.T)∧w.cell? ⟨g,3,none⟩=some (.slice C.AT C.tiles.length C.cT)∧w.cell? ⟨g,4,none⟩=some (.slice C.AO C.on.length C.cO)∧w.cell? ⟨g,5,none⟩=some (.slice C.AI C.ins.length C.cI)∧w.cell? ⟨g,6,none⟩=some (.slice C.AU C.outs.length C.cU) :=
 ⟨h.cell 0,h.cell 1,h.cell 2,h.cell 3,h.cell 4,h.cell 5,h.cell 6⟩
theorem wrong31_in {w:World} {g1 g2 g3:Nat} (h:(bare31C g1 g2).In w) (h3:Blk w g3 3 #[.int .i64 0,.int .i64 0]):(wrong31C g1 g2 g3).In w:=by
 refine ⟨h.tiles,h.on,⟨rfl,Nat.le_refl _,(fun h=>by cases h),?_⟩,h.outs⟩
 intro j u hj
 exact ⟨_,rfl,h3.lt,by rw [show ints (wrong31C g1 g2 g3).ins=[.int .i64 0,.int .i64 0] from rfl] at hj;rw [show (⟨g3,0,none⟩:Addr).add j=⟨g3,j,none⟩ from (by rw [Addr.add_lit];simp),h3.cell j,List.getElem?_toArray];exact hj⟩
theorem Blk.lit {w:World} {g g1 g2:Nat} (h:Blk w g 37 (bare31C g1 g2).cells):w.cell? ⟨g,0,none⟩=some (.int .i64 1)∧w.cell? ⟨g,1,none⟩=some (.int .i64 1)∧w.cell? ⟨g,2,none⟩=some (.int .i64 1)∧w.cell? ⟨g,3,none⟩=some (.slice (some ⟨g1,0,none⟩) 1 1)∧w.cell? ⟨g,4,none⟩=some (.slice (some ⟨g2,0,none⟩) 16 16)∧w.cell? ⟨g,5,none⟩=some (.slice none 0 0)∧w.cell? ⟨g,6,none⟩=some (.slice none 0 0) :=
 ⟨h.cell 0,h.cell 1,h.cell 2,h.cell 3,h.cell 4,h.cell 5,h.cell 6⟩
theorem Blk.litw {w:World} {g g1 g2 g3:Nat} (h:Blk w g 37 (wrong31C g1 g2 g3).cells):w.cell? ⟨g,0,none⟩=some (.int .i64 1)∧w.cell? ⟨g,1,none⟩=some (.int .i64 1)∧w.cell? ⟨g,2,none⟩=some (.int .i64 1)∧w.cell? ⟨g,3,none⟩=some (.slice (some ⟨g1,0,none⟩) 1 1)∧w.cell? ⟨g,4,none⟩=some (.slice (some ⟨g2,0,none⟩) 16 16)∧w.cell? ⟨g,5,none⟩=some (.slice (some ⟨g3,0,none⟩) 2 2)∧w.cell? ⟨g,6,none⟩=some (.slice none 0 0) :=
 ⟨h.cell 0,h.cell 1,h.cell 2,h.cell 3,h.cell 4,h.cell 5,h.cell 6⟩
structure L31 (w0 w:World) (g1 g2 gA gD g7 gW gS:Nat) (D:Cfg):Prop where
 below:Below w0.heap.size w0 w
 bare:(bare31C g1 g2).In w
 d:D.In w
 a:Blk w gA 37 (bare31C g1 g2).cells
 b:Blk w gD 37 D.cells
 c:Blk w gW 37 (wrong31C g1 g2 gS).cells
 s:Blk w gS 3 #[.int .i64 0,.int .i64 0]
theorem L31.keep {w0 w w':World} {g1 g2 gA gD g7 gW gS:Nat} {D:Cfg} (h:L31 w0 w g1 g2 gA gD g7 gW gS D) (hb:Below w.heap.size w w'):L31 w0 w' g1 g2 gA gD g7 gW gS D :=
 ⟨bt_ h.below hb,h.bare.later hb,h.d.later hb,h.a.keep hb,h.b.keep hb,h.c.keep hb,h.s.keep hb⟩
theorem live31_any (w:World):Calls Tryz.prog 4 #[] w fun e w'=>e=.returned (.bool true)∧Below w.heap.size w w':=by
 go_enter Tryz.func4,Tryz.ntmps4
 go_wp2_with fail
 refine (bare31_any _).mono ?_
 rintro e w1 ⟨g1,g2,rfl,hin,hb1⟩
 have HI:=hd_ hin
 have HB1:=hd_ (bt_ (bn_ w _) hb1)
 clear hin hb1
 go_wp2_with fail
 have hl20:=live_len
 have hl0:=live_0
 have hl4:=live_4
 have HA:=hd_ (Blk.made w1 37 (bare31C g1 g2).cells)
 refine (put_bare g1 g2 _ (HI.out.later (bn_ w1 _))).mono ?_
 rintro e w2 ⟨A,c,rfl,hb2,hown⟩
 have HI:=hd_ ((HI.out.later (bn_ w1 _)).later hb2)
 have HA:=hd_ (HA.out.keep hb2)
 have HB2:=hd_ (bt_ (bt_ HB1.out (bn_ w1 _)) hb2)
 have hc:=own_cap hown
 have HR:=hd_ (Rd.of_own hown)
 clear hb2 hown HB1
 obtain ⟨b20,rfl⟩:∃ n,n=20:=⟨_,rfl⟩
 go_wp2_with fail
 refine (bget_pair A 20 c liveB w2 HR.out live_lt (by omega) hc (.inr (live_got 0 0).1)).mono ?_
 rw [(live_got g1 g2).1]
 rintro e w3 ⟨D,rfl,hG,hb3,hD⟩
 have hsame:=(live_got g1 g2).2 D (hG.2 (live_got g1 g2).1)
 have hfD:=got_few hG (by omega)
 have HI:=hd_ ((HI.out.later hb3).later (bn_ w3 (.cells #[.int .i64 D.W,.int .i64 D.H,.int .i64 D.T,.slice D.AT D.tiles.length D.cT,.slice D.AO D.on.length D.cO,.slice D.AI D.ins.length D.cI,.slice D.AU D.outs.length D.cU] 37)))
 have HA:=hd_ ((HA.out.keep hb3).alloc (.cells #[.int .i64 D.W,.int .i64 D.H,.int .i64 D.T,.slice D.AT D.tiles.length D.cT,.slice D.AO D.on.length D.cO,.slice D.AI D.ins.length D.cI,.slice D.AU D.outs.length D.cU] 37))
 have HR:=hd_ ((HR.out.later hb3).later (bn_ w3 (.cells #[.int .i64 D.W,.int .i64 D.H,.int .i64 D.T,.slice D.AT D.tiles.length D.cT,.slice D.AO D.on.length D.cO,.slice D.AI D.ins.length D.cI,.slice D.AU D.outs.length D.cU] 37)))
 have HD:=hd_ (hD.later (bn_ w3 (.cells #[.int .i64 D.W,.int .i64 D.H,.int .i64 D.T,.slice D.AT D.tiles.length D.cT,.slice D.AO D.on.length D.cO,.slice D.AI D.ins.length D.cI,.slice D.AU D.outs.length D.cU] 37)))
 have HX:=hd_ (Blk.made w3 37 D.cells)
 have HB3:=hd_ (bt_ (bt_ HB2.out hb3) (bn_ w3 (.cells #[.int .i64 D.W,.int .i64 D.H,.int .i64 D.T,.slice D.AT D.tiles.length D.cT,.slice D.AO D.on.length D.cO,.slice D.AI D.ins.length D.cI,.slice D.AU D.outs.length D.cU] 37)))
 clear hb3 hD hG HB2
 go_wp2_with fail
 refine (bget_pair none 0 0 [] _ (by simpa [bys] using Rd.empty) (fun x hx=>by cases hx) (by omega) (by unfold maxLen;omega) (.inl (by omega))).mono ?_
 rw [live_none]
 rintro e w4 ⟨D2,rfl,hG2,hb4,-⟩
 have HI:=hd_ ((HI.out.later hb4).later (bn_ w4 (.cells #[.int .i64 D2.W,.int .i64 D2.H,.int .i64 D2.T,.slice D2.AT D2.tiles.length D2.cT,.slice D2.AO D2.on.length D2.cO,.slice D2.AI D2.ins.length D2.cI,.slice D2.AU D2.outs.length D2.cU] 37)))
 have HA:=hd_ ((HA.out.keep hb4).alloc (.cells #[.int .i64 D2.W,.int .i64 D2.H,.int .i64 D2.T,.slice D2.AT D2.tiles.length D2.cT,.slice D2.AO D2.on.length D2.cO,.slice D2.AI D2.ins.length D2.cI,.slice D2.AU D2.outs.length D2.cU] 37))
 have HR:=hd_ ((HR.out.later hb4).later (bn_ w4 (.cells #[.int .i64 D2.W,.int .i64 D2.H,.int .i64 D2.T,.slice D2.AT D2.tiles.length D2.cT,.slice D2.AO D2.on.length D2.cO,.slice D2.AI D2.ins.length D2.cI,.slice D2.AU D2.outs.length D2.cU] 37)))
 have HD:=hd_ ((HD.out.later hb4).later (bn_ w4 (.cells #[.int .i64 D2.W,.int .i64 D2.H,.int .i64 D2.T,.slice D2.AT D2.tiles.length D2.cT,.slice D2.AO D2.on.length D2.cO,.slice D2.AI D2.ins.length D2.cI,.slice D2.AU D2.outs.length D2.cU] 37)))
 have HX:=hd_ ((HX.out.keep hb4).alloc (.cells #[.int .i64 D2.W,.int .i64 D2.H,.int .i64 D2.T,.slice D2.AT D2.tiles.length D2.cT,.slice D2.AO D2.on.length D2.cO,.slice D2.AI D2.ins.length D2.cI,.slice D2.AU D2.outs.length D2.cU] 37))
 have HB4:=hd_ (bt_ (bt_ HB3.out hb4) (bn_ w4 (.cells #[.int .i64 D2.W,.int .i64 D2.H,.int .i64 D2.T,.slice D2.AT D2.tiles.length D2.cT,.slice D2.AO D2.on.length D2.cO,.slice D2.AI D2.ins.length D2.cI,.slice D2.AU D2.outs.length D2.cU] 37)))
 clear hb4 hG2 HB3
 obtain ⟨k0,k1,k2,k3,k4,k5,k6⟩:=HA.out.lit
 go_upto_region 7 with (fail)
 obtain ⟨W7,hW7⟩:∃ W,W=(((w4.alloc (.cells #[.int .i64 D2.W,.int .i64 D2.H,.int .i64 D2.T,.slice D2.AT D2.tiles.length D2.cT,.slice D2.AO D2.on.length D2.cO,.slice D2.AI D2.ins.length D2.cI,.slice D2.AU D2.outs.length D2.cU] 37)).alloc (.cells #[.int .i64 1,.int .i64 1,.int .i64 1,.slice (some ⟨g1,0,none⟩) 1 1,.slice (some ⟨g2,0,none⟩) 16 16,.slice (some ⟨w4.heap.size+1+1,0,none⟩) 2 2,.slice none 0 0] 37)).alloc (.cells #[.int .i64 0,.int .i64 0] 3)):=⟨_,rfl⟩
 have hs7:(w4.alloc (.cells #[.int .i64 D2.W,.int .i64 D2.H,.int .i64 D2.T,.slice D2.AT D2.tiles.length D2.cT,.slice D2.AO D2.on.length D2.cO,.slice D2.AI D2.ins.length D2.cI,.slice D2.AU D2.outs.length D2.cU] 37)).heap.size=w4.heap.size+1:=by simp
 have hb7:Below (w4.alloc (.cells #[.int .i64 D2.W,.int .i64 D2.H,.int .i64 D2.T,.slice D2.AT D2.tiles.length D2.cT,.slice D2.AO D2.on.length D2.cO,.slice D2.AI D2.ins.length D2.cI,.slice D2.AU D2.outs.length D2.cU] 37)).heap.size (w4.alloc (.cells #[.int .i64 D2.W,.int .i64 D2.H,.int .i64 D2.T,.slice D2.AT D2.tiles.length D2.cT,.slice D2.AO D2.on.length D2.cO,.slice D2.AI D2.ins.length D2.cI,.slice D2.AU D2.outs.length D2.cU] 37)) W7:=by
  rw [hW7]
  exact (br_.alloc (by simp) _).alloc (by simp) _
 have hA7:=HA.out.keep hb7
 have hX7:=HX.out.keep hb7
 have hI7:=HI.out.later hb7
 have hD7:=HD.out.later hb7
 have HR7:=hd_ (HR.out.later hb7)
 have hw7:Blk W7 (w4.heap.size+1) 37 (wrong31C g1 g2 (w4.heap.size+1+1)).cells:=by
  rw [hW7]
  have h:=Blk.made (w4.alloc (.cells #[.int .i64 D2.W,.int .i64 D2.H,.int .i64 D2.T,.slice D2.AT D2.tiles.length D2.cT,.slice D2.AO D2.on.length D2.cO,.slice D2.AI D2.ins.length D2.cI,.slice D2.AU D2.outs.length D2.cU] 37)) 37 (wrong31C g1 g2 (w4.heap.size+1+1)).cells
  rw [hs7] at h
  exact h.alloc _
 have hS7:Blk W7 (w4.heap.size+1+1) 3 #[.int .i64 0,.int .i64 0]:=by
  rw [hW7]
  have h:=Blk.made ((w4.alloc (.cells #[.int .i64 D2.W,.int .i64 D2.H,.int .i64 D2.T,.slice D2.AT D2.tiles.length D2.cT,.slice D2.AO D2.on.length D2.cO,.slice D2.AI D2.ins.length D2.cI,.slice D2.AU D2.outs.length D2.cU] 37)).alloc (.cells #[.int .i64 1,.int .i64 1,.int .i64 1,.slice (some ⟨g1,0,none⟩) 1 1,.slice (some ⟨g2,0,none⟩) 16 16,.slice (some ⟨w4.heap.size+1+1,0,none⟩) 2 2,.slice none 0 0] 37)) 3 #[.int .i64 0,.int .i64 0]
  rw [World.size_alloc,hs7] at h
  exact h
 obtain ⟨k0',k1',k2',k3',k4',k5',k6'⟩:=hA7.lit
 rw [hW7] at k4'
 have L7:=hd_ (L31.mk (g7:=0) (bt_ HB4.out hb7) hI7 hD7 hA7 hX7 hw7 hS7)
 clear k0' k1' k2' k3' k5' k6' hb7 hA7 hX7 hI7 hD7 hw7 hS7 hs7 HI HA HX HD HR HB4
 go_wp2_with fail
 rw [<- hW7]
 clear hW7 k4' k0 k1 k2 k3 k4 k5 k6
 refine (bsum_any _ none 0 0 [] (by simpa [bys] using Rd.empty) (fun x hx=>by cases hx) (by omega)).mono ?_
 rw [show sumB []=2166136261 from by decide +kernel]
 rintro e w8 ⟨rfl,hw8⟩
 obtain rfl:W7=w8:=hw8.symm
 clear hw8
 go_wp2_with fail
 refine (bsum_any _ (some ⟨W7.heap.size,0,none⟩) 1 1 [97] (rd_bys1 W7 _ 97 97 rfl) (fun x hx=>by simp at hx;omega) (by omega)).mono ?_
 rw [live_sum]
 rintro e w8 ⟨rfl,hw8⟩
 subst hw8
 have L8:=hd_ (L7.out.keep (bn_ W7 (.cells #[.int .u8 97] 5)))
 have R8:=hd_ (HR7.out.later (bn_ W7 (.cells #[.int .u8 97] 5)))
 clear L7 HR7
 obtain ⟨k0,k1,k2,k3,k4,k5,k6⟩:=L8.out.a.lit
 obtain ⟨j0,j1,j2,j3,j4,j5,j6⟩:=L8.out.b.cfg
 obtain ⟨a,rfl,-,-⟩:=R8.out.byte (k:=0) (by omega)
 have c0:=rd_byte R8.out (k:=0) (by omega)
 have c4:=rd_byte R8.out (k:=4) (by omega)
 rw [add_lit a (by omega)] at c4
 rw [hl0,show (Addr.add a 0)=a from by simp [Addr.add],show ((70:Nat):Int)=70 from rfl] at c0
 rw [hl4,show ((1:Nat):Int)=1 from rfl] at c4
 go_wp2_with fail
 clear c0 c4 R8
 refine (rsame_all (bare31C g1 g2) D _ L8.out.bare L8.out.d (bare31_few g1 g2) hfD hsame.1.1 hsame.1.2.1 hsame.1.2.2 hsame.2.2.1 hsame.2.2.2.1 hsame.2.2.2.2 hsame.2.1 (congrArg List.length hsame.2.1)).mono ?_
 rintro e w9 ⟨rfl,hb9⟩
 have L9:=hd_ (L8.out.keep hb9)
 clear hb9 L8
 clear k0 k1 k2 k3 k4 k5 k6 j0 j1 j2 j3 j4 j5 j6
 obtain ⟨k0,k1,k2,k3,k4,k5,k6⟩:=L9.out.a.lit
 go_wp2_with fail
 refine (check_bare g1 g2 _ L9.out.bare).mono ?_
 rintro e w10 ⟨rfl,hb10⟩
 have L10:=hd_ (L9.out.keep hb10)
 clear hb10 L9
 clear k0 k1 k2 k3 k4 k5 k6
 obtain ⟨i0,i1,i2,i3,i4,i5,i6⟩:=L10.out.c.litw
 go_wp2_with fail
 refine (check_wrong g1 g2 _ _ (wrong31_in L10.out.bare L10.out.s)).mono ?_
 rintro e w11 ⟨rfl,hb11⟩
 have L11:=hd_ (L10.out.keep hb11)
 clear hb11 L10
 clear i0 i1 i2 i3 i4 i5 i6
 obtain ⟨k0,k1,k2,k3,k4,k5,k6⟩:=L11.out.a.lit
 go_wp2_with fail
 refine (same_bare g1 g2 _ L11.out.bare).mono ?_
 rintro e w12 ⟨rfl,hb12⟩
 have L12:=hd_ (L11.out.keep hb12)
 clear hb12 L11
 clear k0 k1 k2 k3 k4 k5 k6
 obtain ⟨k0,k1,k2,k3,k4,k5,k6⟩:=L12.out.a.lit
 obtain ⟨i0,i1,i2,i3,i4,i5,i6⟩:=L12.out.c.litw
 go_wp2_with fail
 refine (same_wrong g1 g2 _ _ L12.out.bare (wrong31_in L12.out.bare L12.out.s)).mono ?_
 rintro e w13 ⟨rfl,hb13⟩
 have L13:=hd_ (L12.out.keep hb13)
 clear hb13 L12
 go_wp2_with fail
 go_ret
 exact ⟨rfl,L13.out.below⟩
end Go.Proofs.YtmkiphadkmodnaaGreat
