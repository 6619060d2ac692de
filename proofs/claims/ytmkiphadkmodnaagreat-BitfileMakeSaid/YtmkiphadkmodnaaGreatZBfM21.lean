/- BfM, 21 -/
import Derived.Laws.BytesArg
import Derived.Test.YtmkiphadkmodnaaGreatZBfM17
import Derived.Test.YtmkiphadkmodnaaGreatZBfM20
import Derived.Test.YtmkiphadkmodnaaGreatZBfM0
set_option linter.all false
set_option maxRecDepth 100000
set_option maxHeartbeats 8000000
namespace Go.Proofs.YtmkiphadkmodnaaGreat
open Go.RowKit Go.Shelf
def gW (l:List Nat):Int:=(l.getD 4 0:Nat)
def gH (l:List Nat):Int:=(l.getD 5 0:Nat)
def gT (l:List Nat):Int:=(l.getD 6 0:Nat)
def gN (l:List Nat):Nat:=(edgesL (gW l) (gH l) (gT l)).length
def okG (l:List Nat):Prop:=okA (gW l) (gH l) (gT l)∧padsOk (2*gW l+2*gH l) (decI l (gN l)++decU l (gN l))∧(decT l).any oddB=false
instance (l:List Nat):Decidable (okG l):=by unfold okG;infer_instance
def magicB:List Nat:=[70,71,66,49]
def getE (l:List Nat):Int :=
 if l.length<15∨l.take 4≠magicB then 310
 else if ¬ okA (gW l) (gH l) (gT l) then 310
 else if l.length≠sizeB l (gN l)+4 then 310
 else if l.drop (sizeB l (gN l))≠four (sumB (l.take (sizeB l (gN l)))) then 311
 else if oddT l 11 (nT l)=true∨oddS l (atS l) (gN l)=true then 310
 else if ¬ okG l then 310 else 0
structure Told (l:List Nat) (C:Cfg):Prop where
 W:C.W=gW l
 H:C.H=gH l
 T:C.T=gT l
 tiles:C.tiles=decT l
 on:C.on=decO l (gN l)
 ins:C.ins=decI l (gN l)
 outs:C.outs=decU l (gN l)
theorem gT_mul (l:List Nat):gW l*gH l=(nT l:Int):=by unfold gW gH nT;rw [Int.natCast_mul]
theorem Told.ok {l:List Nat} {C:Cfg} (h:Told l C):C.ok↔okG l:=by
 unfold Cfg.ok okG
 rw [h.W,h.H,h.T,h.tiles,h.on,h.ins,h.outs]
 have e1:((decT l).length:Int)=gW l*gH l:=by rw [gT_mul];simp [decT,tilesAt_len]
 have e2:(decO l (gN l)).length=(edgesL (gW l) (gH l) (gT l)).length:=by simp [decO,bitsAt_len,gN]
 constructor
 ·rintro ⟨a,b,-,-,c⟩;exact ⟨a,b,c⟩
 ·rintro ⟨a,b,c⟩;exact ⟨a,b,e1,e2,c⟩
theorem tilesAt_next (b:List Nat) (a k:Nat):tilesAt b a (k+1)=tilesAt b a k++[((num2 b (a+3*k):Int),decide (b.getD (a+3*k+2) 0%2=1),decide (b.getD (a+3*k+2) 0/2%2=1))]:=by
 simp [tilesAt,List.range_succ]
theorem oddT_next (b:List Nat) (a k:Nat):oddT b a (k+1)=(oddT b a k||decide (3<b.getD (a+3*k+2) 0)):=by
 simp [oddT,List.range_succ]
theorem bitsAt_next (b:List Nat) (a k:Nat):bitsAt b a (k+1)=bitsAt b a k++[decide (b.getD (a+k/8) 0/2 ^ (k%8)%2=1)]:=by
 simp [bitsAt,List.range_succ]
theorem numsAt_next (b:List Nat) (a k:Nat):numsAt b a (k+1)=numsAt b a k++[(num2 b (a+2*k):Int)]:=by
 simp [numsAt,List.range_succ]
def oddX (b:List Nat) (a n m:Nat):Bool:=(List.range m).any fun j=>decide (n<=j)&&decide (b.getD (a+j/8) 0/2 ^ (j%8)%2=1)
theorem oddX_next (b:List Nat) (a n k:Nat):oddX b a n (k+1)=(oddX b a n k||(decide (n<=k)&&decide (b.getD (a+k/8) 0/2 ^ (k%8)%2=1))):=by
 simp [oddX,List.range_succ]
theorem high_bit {x r : Nat} (hx : x < 256) (h : x / 2 ^ r ≠ 0) : ∃ k, r ≤ k ∧ k < 8 ∧ x / 2 ^ k % 2 = 1 := by
  have hb : ∀ m, x < 2 ^ m → m ≤ 8 → ∃ k, r ≤ k ∧ k < 8 ∧ x / 2 ^ k % 2 = 1 := by
    intro m
    induction m with
    | zero => intro hm _; exfalso; apply h; have : x = 0 := by simpa using hm
              rw [this]; simp
    | succ m ih =>
      intro hm h8
      by_cases hlt : x < 2 ^ m
      · exact ih hlt (by omega)
      · refine ⟨m, ?_, by omega, ?_⟩
        · rcases Nat.lt_or_ge m r with hmr | hmr
          · exfalso; apply h
            exact Nat.div_eq_of_lt (Nat.lt_of_lt_of_le hm (Nat.pow_le_pow_right (by omega) hmr))
          · exact hmr
        · have : x / 2 ^ m = 1 := by
            apply Nat.div_eq_of_lt_le
            · omega
            · rw [Nat.pow_succ] at hm; omega
          rw [this]
  exact hb 8 hx (Nat.le_refl _)
theorem oddX_full {b:List Nat} (hb:∀ x ∈ b,x<256) (a n:Nat):oddX b a n (8*((n+7)/8))=oddS b a n:=by
 rw [Bool.eq_iff_iff]
 unfold oddX oddS
 simp only [List.any_eq_true,List.mem_range,Bool.and_eq_true,decide_eq_true_eq]
 constructor
 ·rintro ⟨j,hj,hn,hbit⟩
  have h8:j/8=n/8:=by omega
  refine ⟨by omega,fun h0=>?_⟩
  rw [h8] at hbit
  have hr:j%8 >= n%8:=by omega
  have:b.getD (a+n/8) 0/2 ^ (j%8)=0:=by
   rw [show j%8=n%8+(j%8-n%8) by omega,Nat.pow_add,<- Nat.div_div_eq_div_mul,h0,Nat.zero_div]
  rw [this] at hbit;simp at hbit
 ·rintro ⟨h1,h2⟩
  obtain ⟨k,hk1,hk2,hk3⟩:=high_bit (getD_lt hb _) h2
  refine ⟨8*(n/8)+k,by omega,by omega,?_⟩
  rw [show (8*(n/8)+k)/8=n/8 by omega,show (8*(n/8)+k)%8=k by omega]
  exact hk3
theorem and1_u8 (m:Nat) (h:m<256):bits .and .u8 (m:Int) 1=((m%2:Nat):Int):=by
 rw [show (1:Int)=((1:Nat):Int) from rfl,u8_and_nat m 1 h (by omega),show (1:Nat)=2 ^ 1-1 from rfl,Nat.and_two_pow_sub_one_eq_mod]
theorem and2_u8 (m:Nat) (h:m<256):bits .and .u8 (m:Int) 2=((m/2%2*2:Nat):Int):=by
 rw [show (2:Int)=((2:Nat):Int) from rfl,u8_and_nat m 2 h (by omega)]
 have:∀ m:Fin 256,m.1 &&& 2=m.1/2%2*2:=by decide +kernel
 rw [this ⟨m,h⟩]
theorem bit_ne (m:Nat):(((m%2:Nat):Int) != 0)=decide (m%2=1):=by
 rcases Nat.mod_two_eq_zero_or_one m with h|h <;> simp [h]
theorem bit_eq (m:Nat):(((m%2:Nat):Int)==1)=decide (m%2=1):=by
 rcases Nat.mod_two_eq_zero_or_one m with h|h <;> simp [h]
theorem bit2_ne (m:Nat):(((m/2%2*2:Nat):Int) != 0)=decide (m/2%2=1):=by
 rcases Nat.mod_two_eq_zero_or_one (m/2) with h|h <;> simp [h]
abbrev zero7:Array Value:=#[.int .i64 0,.int .i64 0,.int .i64 0,.slice none 0 0,.slice none 0 0,.slice none 0 0,.slice none 0 0]
abbrev Cfg.AT' (C:Cfg):Value:=.slice C.AT C.tiles.length C.cT
abbrev Cfg.AO' (C:Cfg):Value:=.slice C.AO C.on.length C.cO
abbrev Cfg.AI' (C:Cfg):Value:=.slice C.AI C.ins.length C.cI
abbrev Cfg.AU' (C:Cfg):Value:=.slice C.AU C.outs.length C.cU
structure GW (w0 wx:World) (gc:Nat) (C:Cfg):Prop where
 below:Below w0.heap.size w0 wx
 res:Blk wx w0.heap.size 37 zero7
 box:Blk wx gc 37 C.cells
 hgc:w0.heap.size<gc
 rT:wx.ownsRow (gc+1) 65 3 C.AT' C.tiles.length (tiles3 C.tiles)
 rO:wx.ownsRow (gc+1) 4 1 C.AO' C.on.length (bools C.on)
 rI:wx.ownsRow (gc+1) 3 1 C.AI' C.ins.length (ints C.ins)
 rU:wx.ownsRow (gc+1) 3 1 C.AU' C.outs.length (ints C.outs)
 sep:C.AI'.ownBlock=none∨C.AU'.ownBlock=none∨C.AI'.ownBlock≠C.AU'.ownBlock
theorem grownBy_setCell'' (w:World) (p:Addr) (u:Value):w.grownBy (w.setCell p u) (some p.block) :=
 ⟨rfl,rfl,rfl,by simp [World.setCell],fun k _ hne=>Below.heap_setCell w p u k (fun e=>hne (by rw [e]))⟩
section
variable {w0 wx wy w' : World} {gc : Nat} {C : Cfg}
theorem GW.keep (h:GW w0 wx gc C) (hb:Below wx.heap.size wx wy):GW w0 wy gc C :=
 ⟨bt_ h.below hb,h.res.keep hb,h.box.keep hb,h.hgc,own_keep h.rT hb,own_keep h.rO hb,own_keep h.rI hb,own_keep h.rU hb,h.sep⟩
theorem GW.drewN (h:GW w0 wx gc C) (k:Nat):GW w0 (wx.drewN k) gc C:=h.keep (below_drewN br_ k)
theorem GW.lt (h:GW w0 wx gc C):gc<wx.heap.size:=h.box.lt
theorem GW.apart (h:GW w0 wx gc C) {p:Addr} (hp:gc<p.block) (ht:C.AT'.ownBlock≠some p.block) (ho:C.AO'.ownBlock≠some p.block) (hi:C.AI'.ownBlock≠some p.block) (hu:C.AU'.ownBlock≠some p.block) (u:Value):GW w0 (wx.setCell p u) gc C:=by
 have:=h.hgc
 have hg:wx.grownBy (wx.setCell p u) (some p.block):=grownBy_setCell'' wx p u
 exact ⟨h.below.setCell (by omega) _,h.res.apart (by omega) _,h.box.apart (by omega) _,h.hgc,h.rT.kept hg (.inr ht),h.rO.kept hg (.inr ho),h.rI.kept hg (.inr hi),h.rU.kept hg (.inr hu),h.sep⟩
theorem own_ne {base e size n k:Nat} {v:Value} {xs:List Value} {w:World} (h:w.ownsRow base e size v n xs) (hk:k<base):v.ownBlock≠some k:=fun e=>by have:=own_base h e;omega
theorem GW.grow (h:GW w0 wx gc C) {row:Option Nat} (hg:wx.grownBy w' row) (hr:∀ g,row=some g->gc<g):Below w0.heap.size w0 w'∧Blk w' w0.heap.size 37 zero7∧Blk w' gc 37 C.cells:=by
 have:=h.hgc
 exact ⟨h.below.grown hg (Nat.le_trans h.below.size (Nat.le_refl _)) (fun j hj=>by have:=hr j hj;omega),h.res.grown hg (fun e=>by have:=hr _ e.symm;omega),h.box.grown hg (fun e=>by have:=hr _ e.symm;omega)⟩
theorem GW.set (hB:Below w0.heap.size w0 w') (hR:Blk w' w0.heap.size 37 zero7) (hgc:w0.heap.size<gc) (i:Nat) (v:Value):Below w0.heap.size w0 (w'.setCell ⟨gc,i,none⟩ v)∧Blk (w'.setCell ⟨gc,i,none⟩ v) w0.heap.size 37 zero7 :=
 ⟨hB.setCell (p:=⟨gc,i,none⟩) (Nat.le_of_lt hgc) _,hR.apart (p:=⟨gc,i,none⟩) (by simp;omega) _⟩
theorem own_set {w:World} {base e size n:Nat} {v:Value} {xs:List Value} (h:w.ownsRow base e size v n xs) (hk:gc<base) (i:Nat) (u:Value):(w.setCell ⟨gc,i,none⟩ u).ownsRow base e size v n xs :=
 h.kept (grownBy_setCell'' w ⟨gc,i,none⟩ u) (.inr (own_ne h hk))
theorem GW.setT (h:GW w0 wx gc C) {A:Option Addr} {c n:Nat} {t:TL} (hg:wx.grownBy w' C.AT'.ownBlock) (hn:n=C.tiles.length+1) (ho:w'.ownsRow (gc+1) 65 3 (.slice A n c) n (tiles3 (C.tiles++[t]))) :
  GW w0 (w'.setCell ⟨gc,3,none⟩ (.slice A n c)) gc { C with AT:=A,cT:=c,tiles:=C.tiles++[t] }:=by
 subst hn
 obtain ⟨b1,b2,b3⟩:=h.grow hg (fun g e=>own_base h.rT e)
 obtain ⟨c1,c2⟩:=GW.set b1 b2 h.hgc 3 (.slice A (C.tiles.length+1) c)
 have e:(C.tiles++[t]).length=C.tiles.length+1:=by simp
 refine ⟨c1,c2,?_,h.hgc,?_,own_set (own_grown h.rO h.rT (by decide) hg) (by omega) 3 _,own_set (own_grown h.rI h.rT (by decide) hg) (by omega) 3 _,own_set (own_grown h.rU h.rT (by decide) hg) (by omega) 3 _,h.sep⟩
 ·have:=b3.put 3 (.slice A (C.tiles.length+1) c)
  simp only [Cfg.cells,e]
  exact this
 ·simp only [Cfg.AT',e]
  exact own_set ho (by omega) 3 _
theorem GW.setO (h:GW w0 wx gc C) {A:Option Addr} {c n:Nat} {t:Bool} (hg:wx.grownBy w' C.AO'.ownBlock) (hn:n=C.on.length+1) (ho:w'.ownsRow (gc+1) 4 1 (.slice A n c) n (bools (C.on++[t]))) :
  GW w0 (w'.setCell ⟨gc,4,none⟩ (.slice A n c)) gc { C with AO:=A,cO:=c,on:=C.on++[t] }:=by
 subst hn
 obtain ⟨b1,b2,b3⟩:=h.grow hg (fun g e=>own_base h.rO e)
 obtain ⟨c1,c2⟩:=GW.set b1 b2 h.hgc 4 (.slice A (C.on.length+1) c)
 have e:(C.on++[t]).length=C.on.length+1:=by simp
 refine ⟨c1,c2,?_,h.hgc,own_set (own_grown h.rT h.rO (by decide) hg) (by omega) 4 _,?_,own_set (own_grown h.rI h.rO (by decide) hg) (by omega) 4 _,own_set (own_grown h.rU h.rO (by decide) hg) (by omega) 4 _,h.sep⟩
 ·have:=b3.put 4 (.slice A (C.on.length+1) c)
  simp only [Cfg.cells,e]
  exact this
 ·simp only [Cfg.AO',e]
  exact own_set ho (by omega) 4 _
theorem GW.setI (h:GW w0 wx gc C) {A:Option Addr} {c n:Nat} {t:Int} (hU:C.AU'.ownBlock=none) (hg:wx.grownBy w' C.AI'.ownBlock) (hn:n=C.ins.length+1) (ho:w'.ownsRow (gc+1) 3 1 (.slice A n c) n (ints (C.ins++[t]))) :
  GW w0 (w'.setCell ⟨gc,5,none⟩ (.slice A n c)) gc { C with AI:=A,cI:=c,ins:=C.ins++[t] }:=by
 subst hn
 obtain ⟨b1,b2,b3⟩:=h.grow hg (fun g e=>own_base h.rI e)
 obtain ⟨c1,c2⟩:=GW.set b1 b2 h.hgc 5 (.slice A (C.ins.length+1) c)
 have e:(C.ins++[t]).length=C.ins.length+1:=by simp
 refine ⟨c1,c2,?_,h.hgc,own_set (own_grown h.rT h.rI (by decide) hg) (by omega) 5 _,own_set (own_grown h.rO h.rI (by decide) hg) (by omega) 5 _,?_,own_set (h.rU.kept hg (.inl hU)) (by omega) 5 _,.inr (.inl hU)⟩
 ·have:=b3.put 5 (.slice A (C.ins.length+1) c)
  simp only [Cfg.cells,e]
  exact this
 ·simp only [Cfg.AI',e]
  exact own_set ho (by omega) 5 _
theorem GW.setU (h:GW w0 wx gc C) {A:Option Addr} {c n:Nat} {t:Int} (hg:wx.grownBy w' C.AU'.ownBlock) (hat:(Value.slice A n c).ownBlock=C.AU'.ownBlock∨∀ g,(Value.slice A n c).ownBlock=some g->wx.heap.size<=g) (hn:n=C.outs.length+1) (ho:w'.ownsRow (gc+1) 3 1 (.slice A n c) n (ints (C.outs++[t]))) :
  GW w0 (w'.setCell ⟨gc,6,none⟩ (.slice A n c)) gc { C with AU:=A,cU:=c,outs:=C.outs++[t] }:=by
 subst hn
 obtain ⟨b1,b2,b3⟩:=h.grow hg (fun g e=>own_base h.rU e)
 obtain ⟨c1,c2⟩:=GW.set b1 b2 h.hgc 6 (.slice A (C.outs.length+1) c)
 have e:(C.outs++[t]).length=C.outs.length+1:=by simp
 have hI:C.AI'.ownBlock=none∨C.AI'.ownBlock≠C.AU'.ownBlock:=by
  rcases h.sep with s|s|s
  ·exact .inl s
  ·rcases hv:C.AI'.ownBlock with _|g
   ·exact .inl rfl
   ·right;rw [s];simp
  ·exact .inr s
 refine ⟨c1,c2,?_,h.hgc,own_set (own_grown h.rT h.rU (by decide) hg) (by omega) 6 _,own_set (own_grown h.rO h.rU (by decide) hg) (by omega) 6 _,own_set (h.rI.kept hg hI) (by omega) 6 _,?_,?_⟩
 ·have:=b3.put 6 (.slice A (C.outs.length+1) c)
  simp only [Cfg.cells,e]
  exact this
 ·simp only [Cfg.AU',e]
  exact own_set ho (by omega) 6 _
 ·simp only [Cfg.AI',Cfg.AU',e] at hI hat ⊢
  rcases hv:(Value.slice C.AI C.ins.length C.cI).ownBlock with _|g
  ·exact .inl rfl
  ·rw [hv] at hI
   right;right
   intro e'
   rcases hat with k|k
   ·rcases hI with s|s
    ·cases s
    ·exact s (e'.trans k)
   ·have h1:=(h.rI.lt g hv).2
    have h2:=k g e'.symm
    omega
end
structure GS (w0 wx:World) (gc gl:Nat) (a:Addr) (e c pos:Nat) (C:Cfg):Prop where
 gw:GW w0 wx gc C
 left:Boxed wx gl 44 (.slice (some (a.add pos)) (e-pos) (c-pos))
 hgl:gc<gl
section
variable {w0 wx wy w' : World} {gc gl : Nat} {a : Addr} {e c pos : Nat} {C : Cfg}
theorem GS.keep (h:GS w0 wx gc gl a e c pos C) (hb:Below wx.heap.size wx wy):GS w0 wy gc gl a e c pos C:=⟨h.gw.keep hb,boxed_below h.left hb,h.hgl⟩
theorem GS.drewN (h:GS w0 wx gc gl a e c pos C) (k:Nat):GS w0 (wx.drewN k) gc gl a e c pos C:=h.keep (below_drewN br_ k)
theorem GS.to (h:GS w0 wx gc gl a e c pos C) (q:Nat):GS w0 (wx.setCell ⟨gl,0,none⟩ (.slice (some (a.add q)) (e-q) (c-q))) gc gl a e c q C :=
 ⟨h.gw.apart (p:=⟨gl,0,none⟩) h.hgl (fun e'=>h.left.not_row (by decide) h.gw.rT e'.symm) (fun e'=>h.left.not_row (by decide) h.gw.rO e'.symm) (fun e'=>h.left.not_row (by decide) h.gw.rI e'.symm) (fun e'=>h.left.not_row (by decide) h.gw.rU e'.symm) _,h.left.set _,h.hgl⟩
theorem GS.box_set (h:GS w0 wx gc gl a e c pos C) {row:Option Nat} (hg:wx.grownBy w' row) (hr:some gl≠row) (i:Nat) (u:Value):Boxed (w'.setCell ⟨gc,i,none⟩ u) gl 44 (.slice (some (a.add pos)) (e-pos) (c-pos)) :=
 (h.left.kept hg hr).kept (grownBy_setCell'' w' ⟨gc,i,none⟩ u) (by have:=h.hgl;simp;omega)
theorem GS.setT (h:GS w0 wx gc gl a e c pos C) {A:Option Addr} {d n:Nat} {t:TL} (hg:wx.grownBy w' C.AT'.ownBlock) (hn:n=C.tiles.length+1) (ho:w'.ownsRow (gc+1) 65 3 (.slice A n d) n (tiles3 (C.tiles++[t]))) :
  GS w0 (w'.setCell ⟨gc,3,none⟩ (.slice A n d)) gc gl a e c pos { C with AT:=A,cT:=d,tiles:=C.tiles++[t] }:=⟨h.gw.setT hg hn ho,h.box_set hg (h.left.not_row (by decide) h.gw.rT) 3 _,h.hgl⟩
theorem GS.setO (h:GS w0 wx gc gl a e c pos C) {A:Option Addr} {d n:Nat} {t:Bool} (hg:wx.grownBy w' C.AO'.ownBlock) (hn:n=C.on.length+1) (ho:w'.ownsRow (gc+1) 4 1 (.slice A n d) n (bools (C.on++[t]))) :
  GS w0 (w'.setCell ⟨gc,4,none⟩ (.slice A n d)) gc gl a e c pos { C with AO:=A,cO:=d,on:=C.on++[t] }:=⟨h.gw.setO hg hn ho,h.box_set hg (h.left.not_row (by decide) h.gw.rO) 4 _,h.hgl⟩
theorem GS.setI (h:GS w0 wx gc gl a e c pos C) {A:Option Addr} {d n:Nat} {t:Int} (hU:C.AU'.ownBlock=none) (hg:wx.grownBy w' C.AI'.ownBlock) (hn:n=C.ins.length+1) (ho:w'.ownsRow (gc+1) 3 1 (.slice A n d) n (ints (C.ins++[t]))) :
  GS w0 (w'.setCell ⟨gc,5,none⟩ (.slice A n d)) gc gl a e c pos { C with AI:=A,cI:=d,ins:=C.ins++[t] }:=⟨h.gw.setI hU hg hn ho,h.box_set hg (h.left.not_row (by decide) h.gw.rI) 5 _,h.hgl⟩
theorem GS.setU (h:GS w0 wx gc gl a e c pos C) {A:Option Addr} {d n:Nat} {t:Int} (hg:wx.grownBy w' C.AU'.ownBlock) (hat:(Value.slice A n d).ownBlock=C.AU'.ownBlock∨∀ g,(Value.slice A n d).ownBlock=some g->wx.heap.size<=g) (hn:n=C.outs.length+1) (ho:w'.ownsRow (gc+1) 3 1 (.slice A n d) n (ints (C.outs++[t]))) :
  GS w0 (w'.setCell ⟨gc,6,none⟩ (.slice A n d)) gc gl a e c pos { C with AU:=A,cU:=d,outs:=C.outs++[t] }:=⟨h.gw.setU hg hat hn ho,h.box_set hg (h.left.not_row (by decide) h.gw.rU) 6 _,h.hgl⟩
end
theorem GW.cells {w0 wx:World} {gc:Nat} {C:Cfg} (h:GW w0 wx gc C):wx.cell? ⟨gc,0,none⟩=some (.int .i64 C.W)∧wx.cell? ⟨gc,1,none⟩=some (.int .i64 C.H)∧wx.cell? ⟨gc,2,none⟩=some (.int .i64 C.T)∧wx.cell? ⟨gc,3,none⟩=some (.slice C.AT C.tiles.length C.cT)∧wx.cell? ⟨gc,4,none⟩=some (.slice C.AO C.on.length C.cO)∧wx.cell? ⟨gc,5,none⟩=some (.slice C.AI C.ins.length C.cI)∧wx.cell? ⟨gc,6,none⟩=some (.slice C.AU C.outs.length C.cU) :=
 ⟨h.box.cell 0,h.box.cell 1,h.box.cell 2,h.box.cell 3,h.box.cell 4,h.box.cell 5,h.box.cell 6⟩
theorem zero_cells {w:World} {g:Nat} {t:TypeId} (h:Blk w g t zero7):w.cell? ⟨g,0,none⟩=some (.int .i64 0)∧w.cell? ⟨g,1,none⟩=some (.int .i64 0)∧w.cell? ⟨g,2,none⟩=some (.int .i64 0)∧w.cell? ⟨g,3,none⟩=some (.slice none 0 0)∧w.cell? ⟨g,4,none⟩=some (.slice none 0 0)∧w.cell? ⟨g,5,none⟩=some (.slice none 0 0)∧w.cell? ⟨g,6,none⟩=some (.slice none 0 0) :=
 ⟨h.cell 0,h.cell 1,h.cell 2,h.cell 3,h.cell 4,h.cell 5,h.cell 6⟩
theorem free_cells {w:World} {g:Nat} {t:TypeId} {cs:Array Value} (h:Blk w g t cs):w.frozen? ⟨g,0,none⟩=false∧w.frozen? ⟨g,1,none⟩=false∧w.frozen? ⟨g,2,none⟩=false∧w.frozen? ⟨g,3,none⟩=false∧w.frozen? ⟨g,4,none⟩=false∧w.frozen? ⟨g,5,none⟩=false∧w.frozen? ⟨g,6,none⟩=false :=
 ⟨h.free 0,h.free 1,h.free 2,h.free 3,h.free 4,h.free 5,h.free 6⟩
theorem GW.zeros {w0 wx:World} {gc:Nat} {C:Cfg} (h:GW w0 wx gc C):wx.cell? ⟨w0.heap.size,0,none⟩=some (.int .i64 0)∧wx.cell? ⟨w0.heap.size,1,none⟩=some (.int .i64 0)∧wx.cell? ⟨w0.heap.size,2,none⟩=some (.int .i64 0)∧wx.cell? ⟨w0.heap.size,3,none⟩=some (.slice none 0 0)∧wx.cell? ⟨w0.heap.size,4,none⟩=some (.slice none 0 0)∧wx.cell? ⟨w0.heap.size,5,none⟩=some (.slice none 0 0)∧wx.cell? ⟨w0.heap.size,6,none⟩=some (.slice none 0 0):=zero_cells h.res
theorem set7 {w:World} {g:Nat} {t:TypeId} {cs:Array Value} (h:Blk w g t cs) (hs:cs.size=7) (v0 v1 v2 v3 v4 v5 v6:Value) :
  Blk (((((((w.setCell ⟨g,0,none⟩ v0).setCell ⟨g,1,none⟩ v1).setCell ⟨g,2,none⟩ v2).setCell ⟨g,3,none⟩ v3).setCell ⟨g,4,none⟩ v4).setCell ⟨g,5,none⟩ v5).setCell ⟨g,6,none⟩ v6) g t #[v0,v1,v2,v3,v4,v5,v6]:=by
 obtain ⟨l⟩:=cs
 match l,hs with
 | [c0,c1,c2,c3,c4,c5,c6],_ =>
  have:=((((((h.put 0 v0).put 1 v1).put 2 v2).put 3 v3).put 4 v4).put 5 v5).put 6 v6
  simpa only [List.setIfInBounds_toArray,List.set_cons_zero,List.set_cons_succ] using this
theorem below7 {w0 w:World} {g:Nat} (h:Below w0.heap.size w0 w) (hg:w0.heap.size<=g) (v0 v1 v2 v3 v4 v5 v6:Value) :
  Below w0.heap.size w0 (((((((w.setCell ⟨g,0,none⟩ v0).setCell ⟨g,1,none⟩ v1).setCell ⟨g,2,none⟩ v2).setCell ⟨g,3,none⟩ v3).setCell ⟨g,4,none⟩ v4).setCell ⟨g,5,none⟩ v5).setCell ⟨g,6,none⟩ v6) :=
 (((((((h.setCell (p:=⟨g,0,none⟩) hg v0).setCell (p:=⟨g,1,none⟩) hg v1).setCell (p:=⟨g,2,none⟩) hg v2).setCell (p:=⟨g,3,none⟩) hg v3).setCell (p:=⟨g,4,none⟩) hg v4).setCell (p:=⟨g,5,none⟩) hg v5).setCell (p:=⟨g,6,none⟩) hg v6)
end Go.Proofs.YtmkiphadkmodnaaGreat
namespace Go.Proofs.YtmkiphadkmodnaaGreat
open Go.RowKit
theorem Cfg.ok.small {C:Cfg} (h:C.ok) (h1:C.ins.length<65536) (h2:C.outs.length<65536):Small C.W C.H C.T C.tiles C.ins C.outs:=by
 obtain ⟨hA,hp,hn,-,ht⟩:=id h
 have hA':=hA
 unfold okA at hA'
 refine ⟨by omega,by omega,by omega,hn,fun t hm=>?_,h1,h2,fun p hm=>?_⟩
 ·obtain ⟨k,hk,rfl⟩:=List.mem_iff_getElem.1 hm
  have:=ok_tile h hk
  rwa [getElem!_pos C.tiles k hk] at this
 ·obtain ⟨k,hk,rfl⟩:=List.mem_iff_getElem.1 hm
  have:=ok_pad h hk
  rwa [List.getD_eq_getElem?_getD,List.getElem?_eq_getElem hk] at this
theorem bytes_dec {C:Cfg} (h:C.ok) (h1:C.ins.length<65536) (h2:C.outs.length<65536) :
  gW C.bytes=C.W∧gH C.bytes=C.H∧gT C.bytes=C.T∧gN C.bytes=C.on.length∧C.bytes.length=sizeB C.bytes (gN C.bytes)+4∧C.bytes.take 4=magicB ∧
  C.bytes.drop (sizeB C.bytes (gN C.bytes))=four (sumB (C.bytes.take (sizeB C.bytes (gN C.bytes))))∧decT C.bytes=C.tiles∧decO C.bytes (gN C.bytes)=C.on∧decI C.bytes (gN C.bytes)=C.ins∧decU C.bytes (gN C.bytes)=C.outs ∧
  oddT C.bytes 11 (nT C.bytes)=false∧oddS C.bytes (atS C.bytes) (gN C.bytes)=false∧15<=C.bytes.length:=by
 obtain ⟨a1,a2,a3,a4,a5,a6,a7,a8,a9,a10,a11,a12,a13,a14,a15,a16,a17⟩:=put_dec (on:=C.on) (h.small h1 h2) (b:=C.bytes) rfl
 have e1:gW C.bytes=C.W:=a1
 have e2:gH C.bytes=C.H:=a2
 have e3:gT C.bytes=C.T:=a3
 have e4:gN C.bytes=C.on.length:=by unfold gN;rw [e1,e2,e3];exact h.2.2.2.1.symm
 rw [e4]
 have hl:15<=C.bytes.length:=by
  show 15<=(putB C.W C.H C.T C.tiles C.on C.ins C.outs).length
  rw [putB_len];omega
 exact ⟨e1,e2,e3,rfl,a8,a17,by rw [a9];exact a10,a11,a12,a13,a14,a15,a16,hl⟩
theorem get_put {C:Cfg} (h:C.ok) (h1:C.ins.length<65536) (h2:C.outs.length<65536):getE C.bytes=0∧∀ D:Cfg,Told C.bytes D->sameP C D:=by
 obtain ⟨e1,e2,e3,e4,hl,hm,hs,d1,d2,d3,d4,o1,o2,h15⟩:=bytes_dec h h1 h2
 have hT:Told C.bytes C:=⟨e1.symm,e2.symm,e3.symm,d1.symm,d2.symm,d3.symm,d4.symm⟩
 constructor
 ·unfold getE
  rw [if_neg (by exact fun x=>x.elim (fun x=>by omega) (fun x=>x hm)),if_neg (fun x=>x (by rw [e1,e2,e3];exact h.1)),if_neg (fun x=>x hl),if_neg (fun x=>x hs),if_neg (by rw [o1,o2];simp),if_neg (fun x=>x (hT.ok.1 h))]
 ·intro D hD
  exact ⟨⟨by rw [hD.W,e1],by rw [hD.H,e2],by rw [hD.T,e3]⟩,by rw [hD.tiles,d1],by rw [hD.on,d2],by rw [hD.ins,d3],by rw [hD.outs,d4]⟩
theorem getE_zero {l:List Nat} (h:getE l=0):¬ l.length<15∧l.take 4=magicB∧okA (gW l) (gH l) (gT l)∧l.length=sizeB l (gN l)+4∧l.drop (sizeB l (gN l))=four (sumB (l.take (sizeB l (gN l))))∧oddT l 11 (nT l)=false∧oddS l (atS l) (gN l)=false∧okG l:=by
 unfold getE at h
 by_cases b1:l.length<15∨l.take 4≠magicB
 ·rw [if_pos b1] at h;cases h
 rw [if_neg b1] at h
 by_cases b2:¬ okA (gW l) (gH l) (gT l)
 ·rw [if_pos b2] at h;cases h
 rw [if_neg b2] at h
 by_cases b3:l.length≠sizeB l (gN l)+4
 ·rw [if_pos b3] at h;cases h
 rw [if_neg b3] at h
 by_cases b4:l.drop (sizeB l (gN l))≠four (sumB (l.take (sizeB l (gN l))))
 ·rw [if_pos b4] at h;cases h
 rw [if_neg b4] at h
 by_cases b5:oddT l 11 (nT l)=true∨oddS l (atS l) (gN l)=true
 ·rw [if_pos b5] at h;cases h
 rw [if_neg b5] at h
 by_cases b6:¬ okG l
 ·rw [if_pos b6] at h;cases h
 exact ⟨fun x=>b1 (.inl x),Classical.not_not.1 fun x=>b1 (.inr x),Classical.not_not.1 b2,Classical.not_not.1 b3,Classical.not_not.1 b4,by simpa using fun x=>b5 (.inl x),by simpa using fun x=>b5 (.inr x),Classical.not_not.1 b6⟩
end Go.Proofs.YtmkiphadkmodnaaGreat
