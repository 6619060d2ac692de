/- BfM, 35 -/
import Derived.Test.YtmkiphadkmodnaaGreatZBfM34
import Derived.Test.YtmkiphadkmodnaaGreatZBfM33
import Derived.Test.YtmkiphadkmodnaaGreatZBfM32
import Derived.Test.YtmkiphadkmodnaaGreatZBfM0
set_option linter.all false
set_option maxRecDepth 100000
set_option maxHeartbeats 8000000
namespace Go.Proofs.YtmkiphadkmodnaaGreat
open Go.RowKit Go.Maps
abbrev oPl0:Oper:=⟨some 14,.fieldAddr 29 (.tmp 5) 0,0,"place.go:105",#[],none⟩
abbrev oPl1:Oper:=⟨some 15,.load 25 (.tmp 14),25,"place.go:105",#[⟨0,.data⟩],none⟩
abbrev oPl2:Oper:=⟨some 16,.call { callee:=.builtin Builtin.len,args:=#[.tmp 15],argTypes:=#[25] },3,"place.go:105",#[⟨1,.data⟩],none⟩
abbrev oPl3:Oper:=⟨some 17,.fieldAddr 27 (.tmp 4) 1,0,"place.go:105",#[],none⟩
abbrev oPl4:Oper:=⟨some 18,.load 24 (.tmp 17),24,"place.go:105",#[⟨3,.data⟩],none⟩
abbrev oPl5:Oper:=⟨some 19,.call { callee:=.builtin Builtin.len,args:=#[.tmp 18],argTypes:=#[24] },3,"place.go:105",#[⟨4,.data⟩],none⟩
abbrev oPl6:Oper:=⟨some 20,.binOp BinOp.neq 3 (.tmp 16) (.tmp 19) 3,4,"place.go:105",#[⟨2,.data⟩,⟨5,.data⟩],none⟩
abbrev oPl7:Oper:=⟨some 21,.move (.tmp 20),4,"place.go:105",#[⟨6,.data⟩],none⟩
abbrev oPl8:Oper:=⟨some 22,.fieldAddr 29 (.tmp 5) 1,0,"place.go:105",#[⟨7,.guard⟩],some (7,false)⟩
abbrev oPl9:Oper:=⟨some 23,.load 25 (.tmp 22),25,"place.go:105",#[⟨8,.data⟩,⟨7,.guard⟩],some (7,false)⟩
abbrev oPl10:Oper:=⟨some 24,.call { callee:=.builtin Builtin.len,args:=#[.tmp 23],argTypes:=#[25] },3,"place.go:105",#[⟨9,.data⟩,⟨7,.guard⟩],some (7,false)⟩
abbrev oPl11:Oper:=⟨some 25,.fieldAddr 27 (.tmp 4) 0,0,"place.go:105",#[⟨7,.guard⟩],some (7,false)⟩
abbrev oPl12:Oper:=⟨some 26,.load 3 (.tmp 25),3,"place.go:105",#[⟨11,.data⟩,⟨7,.guard⟩],some (7,false)⟩
abbrev oPl13:Oper:=⟨some 27,.binOp BinOp.neq 3 (.tmp 24) (.tmp 26) 3,4,"place.go:105",#[⟨10,.data⟩,⟨12,.data⟩,⟨7,.guard⟩],some (7,false)⟩
abbrev oPl14:Oper:=⟨some 28,.pick (.tmp 21) (.const (.bool true)) (.tmp 27),4,"place.go:105",#[⟨7,.data⟩,⟨13,.data⟩],none⟩
abbrev oPl15:Oper:=⟨some 29,.move (.tmp 28),4,"place.go:105",#[⟨14,.data⟩,⟨7,.chain⟩],none⟩
abbrev oPl16:Oper:=⟨some 30,.fieldAddr 29 (.tmp 5) 2,0,"place.go:105",#[⟨15,.guard⟩],some (15,false)⟩
abbrev oPl17:Oper:=⟨some 31,.load 25 (.tmp 30),25,"place.go:105",#[⟨16,.data⟩,⟨15,.guard⟩],some (15,false)⟩
abbrev oPl18:Oper:=⟨some 32,.call { callee:=.builtin Builtin.len,args:=#[.tmp 31],argTypes:=#[25] },3,"place.go:105",#[⟨17,.data⟩,⟨15,.guard⟩],some (15,false)⟩
abbrev oPl19:Oper:=⟨some 33,.fieldAddr 27 (.tmp 4) 2,0,"place.go:105",#[⟨15,.guard⟩],some (15,false)⟩
abbrev oPl20:Oper:=⟨some 34,.load 25 (.tmp 33),25,"place.go:105",#[⟨19,.data⟩,⟨15,.guard⟩],some (15,false)⟩
abbrev oPl21:Oper:=⟨some 35,.call { callee:=.builtin Builtin.len,args:=#[.tmp 34],argTypes:=#[25] },3,"place.go:105",#[⟨20,.data⟩,⟨15,.guard⟩],some (15,false)⟩
abbrev oPl22:Oper:=⟨some 36,.binOp BinOp.neq 3 (.tmp 32) (.tmp 35) 3,4,"place.go:105",#[⟨18,.data⟩,⟨21,.data⟩,⟨15,.guard⟩],some (15,false)⟩
abbrev oPl23:Oper:=⟨some 37,.pick (.tmp 29) (.const (.bool true)) (.tmp 36),4,"place.go:105",#[⟨15,.data⟩,⟨22,.data⟩],none⟩
abbrev oPl24:Oper:=⟨some 38,.move (.tmp 37),4,"place.go:105",#[⟨23,.data⟩,⟨15,.chain⟩],none⟩
abbrev oPl25:Oper:=⟨some 39,.fieldAddr 29 (.tmp 5) 0,0,"place.go:105",#[⟨24,.guard⟩],some (24,false)⟩
abbrev oPl26:Oper:=⟨some 40,.load 25 (.tmp 39),25,"place.go:105",#[⟨25,.data⟩,⟨24,.guard⟩],some (24,false)⟩
abbrev oPl27:Oper:=⟨some 41,.fieldAddr 23 (.tmp 3) 0,0,"place.go:105",#[⟨24,.guard⟩],some (24,false)⟩
abbrev oPl28:Oper:=⟨some 42,.load 3 (.tmp 41),3,"place.go:105",#[⟨27,.data⟩,⟨24,.guard⟩],some (24,false)⟩
abbrev oPl29:Oper:=⟨some 43,.fieldAddr 23 (.tmp 3) 1,0,"place.go:105",#[⟨24,.guard⟩],some (24,false)⟩
abbrev oPl30:Oper:=⟨some 44,.load 3 (.tmp 43),3,"place.go:105",#[⟨29,.data⟩,⟨24,.guard⟩],some (24,false)⟩
abbrev oPl31:Oper:=⟨some 45,.binOp BinOp.mul 3 (.tmp 42) (.tmp 44) 3,3,"place.go:105",#[⟨28,.data⟩,⟨30,.data⟩,⟨24,.guard⟩],some (24,false)⟩
abbrev oPl32:Oper:=⟨some 46,.call { callee:=.value (.func 46),args:=#[.tmp 40,.tmp 45],argTypes:=#[25,3] },4,"place.go:105",#[⟨26,.data⟩,⟨31,.data⟩,⟨24,.chain⟩,⟨24,.guard⟩],some (24,false)⟩
abbrev oPl33:Oper:=⟨some 47,.unOp UnOp.not 4 (.tmp 46),4,"place.go:105",#[⟨32,.data⟩,⟨24,.guard⟩],some (24,false)⟩
abbrev oPl34:Oper:=⟨some 48,.pick (.tmp 38) (.const (.bool true)) (.tmp 47),4,"place.go:105",#[⟨24,.data⟩,⟨33,.data⟩],none⟩
abbrev oPl35:Oper:=⟨some 49,.move (.tmp 48),4,"place.go:105",#[⟨34,.data⟩,⟨32,.chain⟩],none⟩
abbrev oPl36:Oper:=⟨some 50,.fieldAddr 29 (.tmp 5) 1,0,"place.go:105",#[⟨35,.guard⟩],some (35,false)⟩
abbrev oPl37:Oper:=⟨some 51,.load 25 (.tmp 50),25,"place.go:105",#[⟨36,.data⟩,⟨35,.guard⟩],some (35,false)⟩
abbrev oPl38:Oper:=⟨some 52,.fieldAddr 29 (.tmp 5) 2,0,"place.go:105",#[⟨35,.guard⟩],some (35,false)⟩
abbrev oPl39:Oper:=⟨some 53,.load 25 (.tmp 52),25,"place.go:105",#[⟨38,.data⟩,⟨35,.guard⟩],some (35,false)⟩
abbrev oPl40:Oper:=⟨some 54,.buildSlice 30 2 #[(0,.tmp 51),(1,.tmp 53)],30,"place.go:105",#[⟨37,.data⟩,⟨39,.data⟩,⟨35,.guard⟩],some (35,false)⟩
abbrev oPl41:Oper:=⟨some 55,.call { callee:=.value (.func 23),args:=#[.tmp 54],argTypes:=#[30] },25,"place.go:105",#[⟨40,.data⟩,⟨35,.chain⟩,⟨35,.guard⟩],some (35,false)⟩
abbrev oPl42:Oper:=⟨some 56,.fieldAddr 23 (.tmp 3) 0,0,"place.go:105",#[⟨35,.guard⟩],some (35,false)⟩
abbrev oPl43:Oper:=⟨some 57,.load 3 (.tmp 56),3,"place.go:105",#[⟨42,.data⟩,⟨35,.guard⟩],some (35,false)⟩
abbrev oPl44:Oper:=⟨some 58,.fieldAddr 23 (.tmp 3) 1,0,"place.go:105",#[⟨35,.guard⟩],some (35,false)⟩
abbrev oPl45:Oper:=⟨some 59,.load 3 (.tmp 58),3,"place.go:105",#[⟨44,.data⟩,⟨35,.guard⟩],some (35,false)⟩
abbrev oPl46:Oper:=⟨some 60,.binOp BinOp.add 3 (.tmp 57) (.tmp 59) 3,3,"place.go:105",#[⟨43,.data⟩,⟨45,.data⟩,⟨35,.guard⟩],some (35,false)⟩
abbrev oPl47:Oper:=⟨some 61,.binOp BinOp.mul 3 (.const (.int .i64 2)) (.tmp 60) 3,3,"place.go:105",#[⟨46,.data⟩,⟨35,.guard⟩],some (35,false)⟩
abbrev oPl48:Oper:=⟨some 62,.call { callee:=.value (.func 46),args:=#[.tmp 55,.tmp 61],argTypes:=#[25,3] },4,"place.go:105",#[⟨41,.data⟩,⟨47,.data⟩,⟨41,.chain⟩,⟨35,.guard⟩],some (35,false)⟩
abbrev oPl49:Oper:=⟨some 63,.unOp UnOp.not 4 (.tmp 62),4,"place.go:105",#[⟨48,.data⟩,⟨35,.guard⟩],some (35,false)⟩
abbrev oPl50:Oper:=⟨some 64,.pick (.tmp 49) (.const (.bool true)) (.tmp 63),4,"place.go:105",#[⟨35,.data⟩,⟨49,.data⟩],none⟩
abbrev oPl51:Oper:=⟨some 14,.fieldAddr 29 (.tmp 5) 0,0,"ref.go:53",#[],none⟩
abbrev oPl52:Oper:=⟨some 15,.load 25 (.tmp 14),25,"ref.go:53",#[⟨0,.data⟩],none⟩
abbrev oPl53:Oper:=⟨some 16,.call { callee:=.builtin Builtin.len,args:=#[.tmp 15],argTypes:=#[25] },3,"ref.go:53",#[⟨1,.data⟩],none⟩
abbrev oPl54:Oper:=⟨some 17,.fieldAddr 27 (.tmp 4) 1,0,"ref.go:53",#[],none⟩
abbrev oPl55:Oper:=⟨some 18,.load 24 (.tmp 17),24,"ref.go:53",#[⟨3,.data⟩],none⟩
abbrev oPl56:Oper:=⟨some 19,.call { callee:=.builtin Builtin.len,args:=#[.tmp 18],argTypes:=#[24] },3,"ref.go:53",#[⟨4,.data⟩],none⟩
abbrev oPl57:Oper:=⟨some 20,.binOp BinOp.neq 3 (.tmp 16) (.tmp 19) 3,4,"ref.go:53",#[⟨2,.data⟩,⟨5,.data⟩],none⟩
abbrev oPl58:Oper:=⟨some 21,.move (.tmp 20),4,"ref.go:53",#[⟨6,.data⟩],none⟩
abbrev oPl59:Oper:=⟨some 22,.fieldAddr 29 (.tmp 5) 1,0,"ref.go:53",#[⟨7,.guard⟩],some (7,false)⟩
abbrev oPl60:Oper:=⟨some 23,.load 25 (.tmp 22),25,"ref.go:53",#[⟨8,.data⟩,⟨7,.guard⟩],some (7,false)⟩
abbrev oPl61:Oper:=⟨some 24,.call { callee:=.builtin Builtin.len,args:=#[.tmp 23],argTypes:=#[25] },3,"ref.go:53",#[⟨9,.data⟩,⟨7,.guard⟩],some (7,false)⟩
abbrev oPl62:Oper:=⟨some 25,.fieldAddr 27 (.tmp 4) 0,0,"ref.go:53",#[⟨7,.guard⟩],some (7,false)⟩
abbrev oPl63:Oper:=⟨some 26,.load 3 (.tmp 25),3,"ref.go:53",#[⟨11,.data⟩,⟨7,.guard⟩],some (7,false)⟩
abbrev oPl64:Oper:=⟨some 27,.binOp BinOp.neq 3 (.tmp 24) (.tmp 26) 3,4,"ref.go:53",#[⟨10,.data⟩,⟨12,.data⟩,⟨7,.guard⟩],some (7,false)⟩
abbrev oPl65:Oper:=⟨some 28,.pick (.tmp 21) (.const (.bool true)) (.tmp 27),4,"ref.go:53",#[⟨7,.data⟩,⟨13,.data⟩],none⟩
abbrev oPl66:Oper:=⟨some 29,.move (.tmp 28),4,"ref.go:53",#[⟨14,.data⟩,⟨7,.chain⟩],none⟩
abbrev oPl67:Oper:=⟨some 30,.fieldAddr 29 (.tmp 5) 2,0,"ref.go:53",#[⟨15,.guard⟩],some (15,false)⟩
abbrev oPl68:Oper:=⟨some 31,.load 25 (.tmp 30),25,"ref.go:53",#[⟨16,.data⟩,⟨15,.guard⟩],some (15,false)⟩
abbrev oPl69:Oper:=⟨some 32,.call { callee:=.builtin Builtin.len,args:=#[.tmp 31],argTypes:=#[25] },3,"ref.go:53",#[⟨17,.data⟩,⟨15,.guard⟩],some (15,false)⟩
abbrev oPl70:Oper:=⟨some 33,.fieldAddr 27 (.tmp 4) 2,0,"ref.go:53",#[⟨15,.guard⟩],some (15,false)⟩
abbrev oPl71:Oper:=⟨some 34,.load 25 (.tmp 33),25,"ref.go:53",#[⟨19,.data⟩,⟨15,.guard⟩],some (15,false)⟩
abbrev oPl72:Oper:=⟨some 35,.call { callee:=.builtin Builtin.len,args:=#[.tmp 34],argTypes:=#[25] },3,"ref.go:53",#[⟨20,.data⟩,⟨15,.guard⟩],some (15,false)⟩
abbrev oPl73:Oper:=⟨some 36,.binOp BinOp.neq 3 (.tmp 32) (.tmp 35) 3,4,"ref.go:53",#[⟨18,.data⟩,⟨21,.data⟩,⟨15,.guard⟩],some (15,false)⟩
abbrev oPl74:Oper:=⟨some 37,.pick (.tmp 29) (.const (.bool true)) (.tmp 36),4,"ref.go:53",#[⟨15,.data⟩,⟨22,.data⟩],none⟩
abbrev oPl75:Oper:=⟨some 38,.move (.tmp 37),4,"ref.go:53",#[⟨23,.data⟩,⟨15,.chain⟩],none⟩
abbrev oPl76:Oper:=⟨some 39,.fieldAddr 29 (.tmp 5) 0,0,"ref.go:53",#[⟨24,.guard⟩],some (24,false)⟩
abbrev oPl77:Oper:=⟨some 40,.load 25 (.tmp 39),25,"ref.go:53",#[⟨25,.data⟩,⟨24,.guard⟩],some (24,false)⟩
abbrev oPl78:Oper:=⟨some 41,.load 23 (.tmp 3),23,"ref.go:53",#[⟨24,.guard⟩],some (24,false)⟩
abbrev oPl79:Oper:=⟨some 42,.call { callee:=.value (.func 79),args:=#[.tmp 41],argTypes:=#[23] },3,"ref.go:53",#[⟨27,.data⟩,⟨24,.chain⟩,⟨24,.guard⟩],some (24,false)⟩
abbrev oPl80:Oper:=⟨some 43,.call { callee:=.value (.func 78),args:=#[.tmp 40,.tmp 42],argTypes:=#[25,3] },4,"ref.go:53",#[⟨26,.data⟩,⟨28,.data⟩,⟨28,.chain⟩,⟨24,.guard⟩],some (24,false)⟩
abbrev oPl81:Oper:=⟨some 44,.unOp UnOp.not 4 (.tmp 43),4,"ref.go:53",#[⟨29,.data⟩,⟨24,.guard⟩],some (24,false)⟩
abbrev oPl82:Oper:=⟨some 45,.pick (.tmp 38) (.const (.bool true)) (.tmp 44),4,"ref.go:53",#[⟨24,.data⟩,⟨30,.data⟩],none⟩
abbrev oPl83:Oper:=⟨some 46,.move (.tmp 45),4,"ref.go:53",#[⟨31,.data⟩,⟨29,.chain⟩],none⟩
abbrev oPl84:Oper:=⟨some 47,.load 29 (.tmp 5),29,"ref.go:53",#[⟨32,.guard⟩],some (32,false)⟩
abbrev oPl85:Oper:=⟨some 48,.call { callee:=.value (.func 80),args:=#[.tmp 47],argTypes:=#[29] },25,"ref.go:53",#[⟨33,.data⟩,⟨32,.chain⟩,⟨32,.guard⟩],some (32,false)⟩
abbrev oPl86:Oper:=⟨some 49,.load 23 (.tmp 3),23,"ref.go:53",#[⟨32,.guard⟩],some (32,false)⟩
abbrev oPl87:Oper:=⟨some 50,.call { callee:=.value (.func 81),args:=#[.tmp 49],argTypes:=#[23] },3,"ref.go:53",#[⟨35,.data⟩,⟨34,.chain⟩,⟨32,.guard⟩],some (32,false)⟩
abbrev oPl88:Oper:=⟨some 51,.call { callee:=.value (.func 78),args:=#[.tmp 48,.tmp 50],argTypes:=#[25,3] },4,"ref.go:53",#[⟨34,.data⟩,⟨36,.data⟩,⟨36,.chain⟩,⟨32,.guard⟩],some (32,false)⟩
abbrev oPl89:Oper:=⟨some 52,.unOp UnOp.not 4 (.tmp 51),4,"ref.go:53",#[⟨37,.data⟩,⟨32,.guard⟩],some (32,false)⟩
abbrev oPl90:Oper:=⟨some 53,.pick (.tmp 46) (.const (.bool true)) (.tmp 52),4,"ref.go:53",#[⟨32,.data⟩,⟨38,.data⟩],none⟩
structure SPT where
 AB:Option Addr
 cB:Nat
 sb:List Int
 AI:Option Addr
 cI:Nat
 si:List Int
 AO:Option Addr
 cO:Nat
 so:List Int
structure SPT.In (S:SPT) (w:World):Prop where
 b:Rd w 1 S.AB S.sb.length S.cB (ints S.sb)
 i:Rd w 1 S.AI S.si.length S.cI (ints S.si)
 o:Rd w 1 S.AO S.so.length S.cO (ints S.so)
theorem SPT.In.later {S:SPT} {w w':World} (h:S.In w) (hb:Below w.heap.size w w'):S.In w':=⟨h.b.later hb,h.i.later hb,h.o.later hb⟩
structure SPT.fit (S:SPT):Prop where
 b:S.sb.length<=1000
 i:S.si.length<=1000
 o:S.so.length<=1000
def SPT.okP (S:SPT) (P:PK) (W H:Int):Prop:=S.sb.length=P.bs.length∧(S.si.length:Int)=P.I∧S.so.length=P.outs.length∧padsOk (W*H) S.sb∧padsOk (2*(W+H)) (S.si++S.so)
noncomputable instance (S:SPT) (P:PK) (W H:Int):Decidable (S.okP P W H):=Classical.propDecidable _
def BelR (W H T:Int) (P:PK) (x:Int):Prop:=(¬ okA W H T∧x=1)∨(okA W H T∧ChkR P x)
theorem BelR.one {W H T:Int} {P:PK} {x y:Int} (h:BelR W H T P x) (k:BelR W H T P y):x=y:=by
 rcases h with ⟨h1,rfl⟩|⟨h1,h2⟩ <;> rcases k with ⟨k1,rfl⟩|⟨k1,k2⟩
 ·rfl
 ·exact absurd k1 h1
 ·exact absurd h1 k1
 ·exact h2.one k2
def PlcR (W H T:Int) (P:PK) (S:SPT) (x:Int):Prop:=(x≠0∧BelR W H T P x)∨(BelR W H T P 0∧((S.okP P W H∧x=0)∨(¬ S.okP P W H∧x=1)))
theorem PlcR.one {W H T:Int} {P:PK} {S:SPT} {x y:Int} (h:PlcR W H T P S x) (k:PlcR W H T P S y):x=y:=by
 rcases h with ⟨h1,h2⟩|⟨h1,h2⟩ <;> rcases k with ⟨k1,k2⟩|⟨k1,k2⟩
 ·exact h2.one k2
 ·exact absurd (h2.one k1) h1
 ·exact absurd (k2.one h1) k1
 ·rcases h2 with ⟨h3,rfl⟩|⟨h3,rfl⟩ <;> rcases k2 with ⟨k3,rfl⟩|⟨k3,rfl⟩
  ·rfl
  ·exact absurd h3 k3
  ·exact absurd k3 h3
  ·rfl
theorem PlcR.ok {W H T:Int} {P:PK} {S:SPT} (h:PlcR W H T P S 0):okA W H T∧ChkR P 0∧S.okP P W H:=by
 rcases h with ⟨h1,-⟩|⟨h1,h2⟩
 ·exact absurd rfl h1
 ·rcases h2 with ⟨h3,-⟩|⟨-,h3⟩
  ·rcases h1 with ⟨-,h4⟩|⟨h4,h5⟩
   ·cases h4
   ·exact ⟨h4,h5,h3⟩
  ·cases h3
theorem pbelow_any (W H T:Int) (P:PK) (w:World) (hin:P.In w) (hf:P.fit) :
  Calls Tryz.prog 45 #[.agg #[.int .i64 W,.int .i64 H,.int .i64 T],.agg #[.int .i64 P.I,.slice P.AB P.bs.length P.cB,.slice P.AO P.outs.length P.cO]] w fun e w'=>∃ x,e=.returned (.int .i64 x)∧BelR W H T P x∧Below w.heap.size w w':=by
 have Q0:=hd_ (bt_ (bn_ w (.cells #[.int .i64 W,.int .i64 H,.int .i64 T] 23)) (bn_ _ (.cells #[.int .i64 P.I,.slice P.AB P.bs.length P.cB,.slice P.AO P.outs.length P.cO] 27)))
 have X0:=hd_ ((Blk.made w 23 #[.int .i64 W,.int .i64 H,.int .i64 T]).alloc (.cells #[.int .i64 P.I,.slice P.AB P.bs.length P.cB,.slice P.AO P.outs.length P.cO] 27))
 have Y0:=hd_ (blk_made1 w (.cells #[.int .i64 W,.int .i64 H,.int .i64 T] 23) 27 #[.int .i64 P.I,.slice P.AB P.bs.length P.cB,.slice P.AO P.outs.length P.cO])
 have HI:=hd_ hin
 have HF:=hd_ hf
 clear hin hf
 have a0:=X0.out.cell 0
 have a1:=X0.out.cell 1
 have a2:=X0.out.cell 2
 by_cases h:okA W H T
 ·have HH:=hd_ h
  clear h
  go_enter Tryz.func45,Tryz.ntmps45
  go_wp2_with fail
  refine (check_yes _ _ _ _ HH.out).mono ?_
  rintro e w1 ⟨rfl,hb1⟩
  have Q1:=hd_ (bt_ Q0.out hb1)
  have Y1:=hd_ (Y0.out.keep hb1)
  clear hb1 a0 a1 a2
  have b0:=Y1.out.cell 0
  have b1:=Y1.out.cell 1
  have b2:=Y1.out.cell 2
  go_wp2_with fail
  refine (pchk_any P _ (HI.out.later Q1.out) HF.out).mono ?_
  rintro e w2 ⟨x,rfl,hx,hb2⟩
  have Q2:=hd_ (bt_ Q1.out hb2)
  have HX:=hd_ hx
  clear hb2 hx
  go_wp2_with fail
  go_ret
  exact ⟨_,rfl,.inr ⟨HH.out,HX.out⟩,Q2.out⟩
 ·have HH:=hd_ h
  clear h
  go_enter Tryz.func45,Tryz.ntmps45
  go_wp2_with fail
  refine (check_no _ _ _ _ HH.out).mono ?_
  rintro e w1 ⟨rfl,hb1⟩
  have Q1:=hd_ (bt_ Q0.out hb1)
  clear hb1
  go_wp2_with fail
  go_ret
  exact ⟨_,rfl,.inl ⟨HH.out,rfl⟩,Q1.out⟩
theorem rbelow29_any (W H T:Int) (P:PK) (w:World) (hin:P.In w) (hf:P.fit) :
  Calls Tryz.prog 77 #[.agg #[.int .i64 W,.int .i64 H,.int .i64 T],.agg #[.int .i64 P.I,.slice P.AB P.bs.length P.cB,.slice P.AO P.outs.length P.cO]] w fun e w'=>∃ x,e=.returned (.int .i64 x)∧BelR W H T P x∧Below w.heap.size w w':=by
 have Q0:=hd_ (bt_ (bn_ w (.cells #[.int .i64 W,.int .i64 H,.int .i64 T] 23)) (bn_ _ (.cells #[.int .i64 P.I,.slice P.AB P.bs.length P.cB,.slice P.AO P.outs.length P.cO] 27)))
 have X0:=hd_ ((Blk.made w 23 #[.int .i64 W,.int .i64 H,.int .i64 T]).alloc (.cells #[.int .i64 P.I,.slice P.AB P.bs.length P.cB,.slice P.AO P.outs.length P.cO] 27))
 have Y0:=hd_ (blk_made1 w (.cells #[.int .i64 W,.int .i64 H,.int .i64 T] 23) 27 #[.int .i64 P.I,.slice P.AB P.bs.length P.cB,.slice P.AO P.outs.length P.cO])
 have HI:=hd_ hin
 have HF:=hd_ hf
 clear hin hf
 have a0:=X0.out.cell 0
 have a1:=X0.out.cell 1
 have a2:=X0.out.cell 2
 by_cases h:okA W H T
 ·have HH:=hd_ h
  clear h
  go_enter Tryz.func77,Tryz.ntmps77
  go_wp2_with fail
  refine (rcheck_yes _ _ _ _ HH.out).mono ?_
  rintro e w1 ⟨rfl,hb1⟩
  have Q1:=hd_ (bt_ Q0.out hb1)
  have Y1:=hd_ (Y0.out.keep hb1)
  clear hb1 a0 a1 a2
  have b0:=Y1.out.cell 0
  have b1:=Y1.out.cell 1
  have b2:=Y1.out.cell 2
  go_wp2_with fail
  refine (rCheck_any P _ (HI.out.later Q1.out) HF.out).mono ?_
  rintro e w2 ⟨x,rfl,hx,hb2⟩
  have Q2:=hd_ (bt_ Q1.out hb2)
  have HX:=hd_ hx
  clear hb2 hx
  go_wp2_with fail
  go_ret
  exact ⟨_,rfl,.inr ⟨HH.out,HX.out⟩,Q2.out⟩
 ·have HH:=hd_ h
  clear h
  go_enter Tryz.func77,Tryz.ntmps77
  go_wp2_with fail
  refine (rcheck_no _ _ _ _ HH.out).mono ?_
  rintro e w1 ⟨rfl,hb1⟩
  have Q1:=hd_ (bt_ Q0.out hb1)
  clear hb1
  go_wp2_with fail
  go_ret
  exact ⟨_,rfl,.inl ⟨HH.out,rfl⟩,Q1.out⟩
theorem rtiles29_any (W H T:Int) (w:World) (h:okA W H T) :
  Calls Tryz.prog 79 #[.agg #[.int .i64 W,.int .i64 H,.int .i64 T]] w fun e w'=>e=.returned (.int .i64 (W*H))∧Below w.heap.size w w':=by
 have Q0:=hd_ (bn_ w (.cells #[.int .i64 W,.int .i64 H,.int .i64 T] 23))
 have X0:=hd_ (Blk.made w 23 #[.int .i64 W,.int .i64 H,.int .i64 T])
 have hh:=h
 unfold okA at hh
 have m1:=mul_bd (a:=W) (b:=H) (A:=16) (B:=16) (by omega) (by omega) (by omega) (by omega)
 have hwr:IntKind.i64.wrap (W*H)=W*H:=IntWalk.i64_in _ (by omega)
 have hw2:2*W+2*H=2*(W+H):=by omega
 have a0:=X0.out.cell 0
 have a1:=X0.out.cell 1
 go_enter Tryz.func79,Tryz.ntmps79
 go_wp2_with fail
 go_ret
 exact ⟨by first|rfl|(rw [<- hw2])|(congr 2;omega),Q0.out⟩
theorem rpads29_any (W H T:Int) (w:World) (h:okA W H T) :
  Calls Tryz.prog 81 #[.agg #[.int .i64 W,.int .i64 H,.int .i64 T]] w fun e w'=>e=.returned (.int .i64 (2*(W+H)))∧Below w.heap.size w w':=by
 have Q0:=hd_ (bn_ w (.cells #[.int .i64 W,.int .i64 H,.int .i64 T] 23))
 have X0:=hd_ (Blk.made w 23 #[.int .i64 W,.int .i64 H,.int .i64 T])
 have hh:=h
 unfold okA at hh
 have m1:=mul_bd (a:=W) (b:=H) (A:=16) (B:=16) (by omega) (by omega) (by omega) (by omega)
 have hwr:IntKind.i64.wrap (W*H)=W*H:=IntWalk.i64_in _ (by omega)
 have hw2:2*W+2*H=2*(W+H):=by omega
 have a0:=X0.out.cell 0
 have a1:=X0.out.cell 1
 go_enter Tryz.func81,Tryz.ntmps81
 go_wp2_with fail
 go_ret
 exact ⟨by first|rfl|(rw [<- hw2])|(congr 2;omega),Q0.out⟩
theorem rboth29_any (S:SPT) (w:World) (hin:S.In w) (hf:S.fit) :
  Calls Tryz.prog 80 #[.agg #[.slice S.AB S.sb.length S.cB,.slice S.AI S.si.length S.cI,.slice S.AO S.so.length S.cO]] w (RowOut (S.si++S.so) w):=by
 have hf1:=hf.i
 have hf2:=hf.o
 obtain ⟨R,hR⟩:∃ R,RowOut (S.si++S.so) w=R:=⟨_,rfl⟩
 rw [hR]
 have HR:=hd_ hR
 have HI:=hd_ hin
 have Q0:=hd_ (bn_ w (.cells #[.slice S.AB S.sb.length S.cB,.slice S.AI S.si.length S.cI,.slice S.AO S.so.length S.cO] 29))
 have X0:=hd_ (Blk.made w 29 #[.slice S.AB S.sb.length S.cB,.slice S.AI S.si.length S.cI,.slice S.AO S.so.length S.cO])
 have O0:=hd_ (show ((w.alloc (.cells #[.slice S.AB S.sb.length S.cB,.slice S.AI S.si.length S.cI,.slice S.AO S.so.length S.cO] 29)).alloc (.cells #[] 3)).ownsRow (w.heap.size+1) 3 1 (.slice (some ⟨w.heap.size+1,0,none⟩) 0 0) 0 (ints []) from by
  have h:=World.ownsRow_made (base:=w.heap.size+1) (e:=3) (size:=1) (w.alloc (.cells #[.slice S.AB S.sb.length S.cB,.slice S.AI S.si.length S.cI,.slice S.AO S.so.length S.cO] 29)) #[] 0 (by simp) (by unfold maxLen;omega) (by simp)
  rw [show (w.alloc (.cells #[.slice S.AB S.sb.length S.cB,.slice S.AI S.si.length S.cI,.slice S.AO S.so.length S.cO] 29)).heap.size=w.heap.size+1 by simp] at h
  exact h)
 have k1:=(X0.out.alloc (.cells #[] 3)).cell 1
 clear hR hin hf
 go_enter Tryz.func80,Tryz.ntmps80
 go_wp2_with (at_builtin;refine wpList_app_ints rfl (.tmp 4) (.tmp 6) rfl (w.heap.size+1) (some ⟨w.heap.size+1,0,none⟩) 0 0 [] rfl O0.out S.AI S.si.length S.cI S.si rfl (HI.out.i.later (bt_ Q0.out (bn_ _ _))) (by omega) (by first|(simp;done)|(simp;omega)) ?_)
 intro A1 c1 w1 hown1 hg1
 try simp only [Nat.zero_add,List.nil_append] at hown1
 have hgr:Below (w.heap.size+1) (w.alloc (.cells #[.slice S.AB S.sb.length S.cB,.slice S.AI S.si.length S.cI,.slice S.AO S.so.length S.cO] 29)) w1:=(br_.alloc (by simp) (.cells #[] 3)).grown hg1 (by first|(simp;done)|(simp;omega)) (fun j hj=>own_base O0.out hj)
 have Q1:=hd_ (Q0.out.trans (hgr.mono (by omega)))
 have X1:=hd_ (show Blk w1 w.heap.size 29 #[.slice S.AB S.sb.length S.cB,.slice S.AI S.si.length S.cI,.slice S.AO S.so.length S.cO] from (hgr.block _ (by omega)).trans X0.out)
 have hs1:w.heap.size+1<=w1.heap.size:=X1.out.lt
 have O1:=hd_ hown1
 clear hown1 hg1 hgr k1
 have k2:=X1.out.cell 2
 go_wp2_with (at_builtin;refine wpList_app_ints rfl (.tmp 8) (.tmp 10) rfl (w.heap.size+1) A1 S.si.length c1 S.si rfl O1.out S.AO S.so.length S.cO S.so rfl (HI.out.o.later Q1.out) (by omega) hs1 ?_)
 intro A2 c2 w2 hown2 hg2
 have Q2:=hd_ (Q1.out.grown hg2 (by omega) (fun j hj=>by have:=own_base O1.out hj;omega))
 have O2:=hd_ hown2
 clear hown2 hg2
 go_wp2_with fail
 rw [<- HR.out]
 exact row_mk (by simp) (own_low O2.out (by omega)) Q2.out
theorem concat2_any (AI AO:Option Addr) (cI cO:Nat) (si so:List Int) (W:World) (g:Nat) (hI:Rd W 1 AI si.length cI (ints si)) (hO:Rd W 1 AO so.length cO (ints so)) (hB:Blk W g 25 #[.slice AI si.length cI,.slice AO so.length cO]) (h1:si.length<=1000) (h2:so.length<=1000) :
  Calls Tryz.prog 23 #[.slice (some ⟨g,0,none⟩) 2 2] W fun e w'=>∃ A c,e=.returned (.slice A (si.length+so.length) c)∧Below W.heap.size W w'∧Rd w' 1 A (si.length+so.length) c (ints (si++so)):=by
 have hcat:cat [(AI,cI,si),(AO,cO,so)]=si++so:=by simp [cat]
 refine (concat_any W (some ⟨g,0,none⟩) 2 2 [(AI,cI,si),(AO,cO,so)] rfl (rd_of_blk (cs:=[.slice AI si.length cI,.slice AO so.length cO]) hB 1 2 rfl) ?_ (by omega) (by rw [hcat,List.length_append];omega)).mono ?_
 ·intro l hl
  simp at hl
  rcases hl with rfl|rfl
  ·exact hI
  ·exact hO
 ·rintro e w' ⟨A,c,rfl,hb,ho⟩
  rw [hcat,List.length_append] at ho ⊢
  exact ⟨A,c,rfl,hb,Rd.of_own ho⟩
theorem rboth29_len (S:SPT) (w:World) (hin:S.In w) (hf:S.fit) :
  Calls Tryz.prog 80 #[.agg #[.slice S.AB S.sb.length S.cB,.slice S.AI S.si.length S.cI,.slice S.AO S.so.length S.cO]] w fun e w'=>∃ A c,e=.returned (.slice A (S.si.length+S.so.length) c)∧Below w.heap.size w w'∧Rd w' 1 A (S.si.length+S.so.length) c (ints (S.si++S.so)):=by
 refine (rboth29_any S w hin hf).mono ?_
 rintro e w' ⟨A,c,rfl,ho,hb⟩
 rw [List.length_append] at ho ⊢
 exact ⟨A,c,rfl,hb,Rd.of_own ho⟩
theorem pplace_any (W H T:Int) (P:PK) (S:SPT) (w:World) (hin:P.In w) (hf:P.fit) (hsi:S.In w) (hsf:S.fit) :
  Calls Tryz.prog 17 #[.agg #[.int .i64 W,.int .i64 H,.int .i64 T],.agg #[.int .i64 P.I,.slice P.AB P.bs.length P.cB,.slice P.AO P.outs.length P.cO],.agg #[.slice S.AB S.sb.length S.cB,.slice S.AI S.si.length S.cI,.slice S.AO S.so.length S.cO]] w fun e w'=>∃ x,e=.returned (.int .i64 x)∧PlcR W H T P S x∧Below w.heap.size w w':=by
 have hb0:=bt_ (bt_ (bn_ w (.cells #[.int .i64 W,.int .i64 H,.int .i64 T] 23)) (bn_ _ (.cells #[.int .i64 P.I,.slice P.AB P.bs.length P.cB,.slice P.AO P.outs.length P.cO] 27))) (bn_ _ (.cells #[.slice S.AB S.sb.length S.cB,.slice S.AI S.si.length S.cI,.slice S.AO S.so.length S.cO] 29))
 have X0:=hd_ (((Blk.made w 23 #[.int .i64 W,.int .i64 H,.int .i64 T]).alloc (.cells #[.int .i64 P.I,.slice P.AB P.bs.length P.cB,.slice P.AO P.outs.length P.cO] 27)).alloc (.cells #[.slice S.AB S.sb.length S.cB,.slice S.AI S.si.length S.cI,.slice S.AO S.so.length S.cO] 29))
 have Y0:=hd_ ((blk_made1 w (.cells #[.int .i64 W,.int .i64 H,.int .i64 T] 23) 27 #[.int .i64 P.I,.slice P.AB P.bs.length P.cB,.slice P.AO P.outs.length P.cO]).alloc (.cells #[.slice S.AB S.sb.length S.cB,.slice S.AI S.si.length S.cI,.slice S.AO S.so.length S.cO] 29))
 have Z0:=hd_ (show Blk (((w.alloc (.cells #[.int .i64 W,.int .i64 H,.int .i64 T] 23)).alloc (.cells #[.int .i64 P.I,.slice P.AB P.bs.length P.cB,.slice P.AO P.outs.length P.cO] 27)).alloc (.cells #[.slice S.AB S.sb.length S.cB,.slice S.AI S.si.length S.cI,.slice S.AO S.so.length S.cO] 29)) (w.heap.size+1+1) 29 #[.slice S.AB S.sb.length S.cB,.slice S.AI S.si.length S.cI,.slice S.AO S.so.length S.cO] from by
  have:=Blk.made ((w.alloc (.cells #[.int .i64 W,.int .i64 H,.int .i64 T] 23)).alloc (.cells #[.int .i64 P.I,.slice P.AB P.bs.length P.cB,.slice P.AO P.outs.length P.cO] 27)) 29 #[.slice S.AB S.sb.length S.cB,.slice S.AI S.si.length S.cI,.slice S.AO S.so.length S.cO]
  simpa using this)
 have HB:=hd_ (pbelow_any W H T P _ (hin.later hb0) hf)
 have HSI:=hd_ hsi
 have Q0:=hd_ hb0
 have hf1:=hsf.b
 have hf2:=hsf.i
 have hf3:=hsf.o
 have hok0:∀ v1 v2,decide (padsOk (W*H) S.sb)=v1->decide (padsOk (2*(W+H)) (S.si++S.so))=v2->(S.okP P W H↔(S.sb.length=P.bs.length∧(S.si.length:Int)=P.I∧S.so.length=P.outs.length∧v1=true∧v2=true)):=fun v1 v2 h1 h2=>by unfold SPT.okP;rw [<- h1,<- h2,decide_eq_true_eq,decide_eq_true_eq]
 obtain ⟨v1,hv1⟩:∃ v,decide (padsOk (W*H) S.sb)=v:=⟨_,rfl⟩
 obtain ⟨v2,hv2⟩:∃ v,decide (padsOk (2*(W+H)) (S.si++S.so))=v:=⟨_,rfl⟩
 have HL:=hd_ (hok0 v1 v2 hv1 hv2)
 have HV1:=hd_ hv1
 have HV2:=hd_ hv2
 clear hok0 hv1 hv2
 have HA1:=hd_ (fun (W':World) (hW:Below w.heap.size w W') (hm:W*H<=1000000)=>palone_any W' S.AB S.sb.length S.cB S.sb (W*H) v1 HV1.out (HSI.out.b.later hW) (by omega) hm)
 have HA2:=hd_ (fun (W':World) (A:Option Addr) (c:Nat) (hm:2*(W+H)<=1000000) (hr:Rd W' 1 A (S.si.length+S.so.length) c (ints (S.si++S.so)))=>palone_any W' A (S.si.length+S.so.length) c (S.si++S.so) (2*(W+H)) v2 HV2.out hr (by omega) hm)
 have HCC:=hd_ (fun (W':World) (g:Nat) (hW:Below w.heap.size w W') (hB:Blk W' g 25 #[.slice S.AI S.si.length S.cI,.slice S.AO S.so.length S.cO])=>concat2_any S.AI S.AO S.cI S.cO S.si S.so W' g (HSI.out.i.later hW) (HSI.out.o.later hW) hB (by omega) (by omega))
 obtain ⟨nb,hnb⟩:∃ n,S.sb.length=n:=⟨_,rfl⟩
 obtain ⟨ni,hni⟩:∃ n,S.si.length=n:=⟨_,rfl⟩
 obtain ⟨no,hno⟩:∃ n,S.so.length=n:=⟨_,rfl⟩
 obtain ⟨pb,hpb⟩:∃ n,P.bs.length=n:=⟨_,rfl⟩
 obtain ⟨po,hpo⟩:∃ n,P.outs.length=n:=⟨_,rfl⟩
 obtain ⟨pI,hpI⟩:∃ n,P.I=n:=⟨_,rfl⟩
 simp only [hnb,hni,hno,hpb,hpo,hpI] at X0 Y0 Z0 Q0 HB HL hf1 hf2 hf3 HA1 HA2 HCC ⊢
 clear hpb hpo hpI hin hf hsi hsf hb0
 have HLI:=hd_ hni
 have HLO:=hd_ hno
 clear hnb hni hno
 have a0:=X0.out.cell 0
 have a1:=X0.out.cell 1
 have a2:=X0.out.cell 2
 have b0:=Y0.out.cell 0
 have b1:=Y0.out.cell 1
 have b2:=Y0.out.cell 2
 go_enter Tryz.func17,Tryz.ntmps17
 go_wp2_with fail
 refine HB.out.mono ?_
 rintro e w1 ⟨y,rfl,hy,hb1⟩
 have Q1:=hd_ (bt_ Q0.out hb1)
 have X1:=hd_ (X0.out.keep hb1)
 have Y1:=hd_ (Y0.out.keep hb1)
 have Z1:=hd_ (Z0.out.keep hb1)
 have HY:=hd_ hy
 clear hb1 hy HB a0 a1 a2 b0 b1 b2
 by_cases hy0:y=0
 case neg =>
  have hne:(y != 0)=true:=by rw [bne_iff_ne];exact hy0
  have HNE:=hd_ hy0
  clear hy0
  go_wp2_with fail
  go_ret
  exact ⟨_,rfl,.inl ⟨HNE.out,HY.out⟩,Q1.out⟩
 subst hy0
 have hok:okA W H T:=by
  rcases HY.out with ⟨-,h4⟩|⟨h4,-⟩
  ·cases h4
  ·exact h4
 have HOK:=hd_ hok
 unfold okA at hok
 have m1:=mul_bd (a:=W) (b:=H) (A:=16) (B:=16) (by omega) (by omega) (by omega) (by omega)
 have hwr:IntKind.i64.wrap (W*H)=W*H:=IntWalk.i64_in _ (by omega)
 have hwp:IntKind.i64.wrap (W+H)=W+H:=IntWalk.i64_in _ (by omega)
 have hwp2:IntKind.i64.wrap (2*(W+H))=2*(W+H):=IntWalk.i64_in _ (by omega)
 have HP0:=hd_ (fun (h:S.okP P W H)=>show PlcR W H T P S 0 from .inr ⟨HY.out,.inl ⟨h,rfl⟩⟩)
 have HP1:=hd_ (fun (h:¬ S.okP P W H)=>show PlcR W H T P S 1 from .inr ⟨HY.out,.inr ⟨h,rfl⟩⟩)
 have HK:=hd_ (show ∀ w':World,Below w1.heap.size w1 w'->(w'.cell? ⟨w.heap.size,0,none⟩=some (.int .i64 W)∧w'.cell? ⟨w.heap.size,1,none⟩=some (.int .i64 H)∧w'.cell? ⟨w.heap.size,2,none⟩=some (.int .i64 T)∧w'.cell? ⟨w.heap.size+1,0,none⟩=some (.int .i64 pI)∧w'.cell? ⟨w.heap.size+1,1,none⟩=some (.slice P.AB pb P.cB)∧w'.cell? ⟨w.heap.size+1,2,none⟩=some (.slice P.AO po P.cO)∧w'.cell? ⟨w.heap.size+1+1,0,none⟩=some (.slice S.AB nb S.cB)∧w'.cell? ⟨w.heap.size+1+1,1,none⟩=some (.slice S.AI ni S.cI)∧w'.cell? ⟨w.heap.size+1+1,2,none⟩=some (.slice S.AO no S.cO)) from fun W' hW=>⟨(X1.out.keep hW).cell 0,(X1.out.keep hW).cell 1,(X1.out.keep hW).cell 2,(Y1.out.keep hW).cell 0,(Y1.out.keep hW).cell 1,(Y1.out.keep hW).cell 2,(Z1.out.keep hW).cell 0,(Z1.out.keep hW).cell 1,(Z1.out.keep hW).cell 2⟩)
 by_cases e1:nb=pb
 case neg =>
  have d1:((nb:Int) != (pb:Int))=true:=by rw [bne_iff_ne];omega
  have HN:=hd_ (HP1.out (fun h=>e1 (HL.out.1 h).1))
  clear e1
  go_wp2_with fail
  obtain ⟨x0,x1,x2,x3,x4,x5,x6,x7,x8⟩:=HK.out _ br_
  refine wp_region_still_in (by kernel_rfl) (by kernel_rfl) fun St9 ne9 V9 hV9 hS9=>?_
  have qx0:=still_cell hV9 x0
  have qx1:=still_cell hV9 x1
  have qx2:=still_cell hV9 x2
  have qx3:=still_cell hV9 x3
  have qx4:=still_cell hV9 x4
  have qx5:=still_cell hV9 x5
  have qx6:=still_cell hV9 x6
  have qx7:=still_cell hV9 x7
  have qx8:=still_cell hV9 x8
  repeat (first|go_big_quiet_step (fail)|quiet_step (fail))
  refine wpQuiet_nil ?_
  intro _ hw9
  obtain ⟨s9,rfl⟩:=hw9
  have hb9:=hV9 s9
  clear qx0 qx1 qx2 qx3 qx4 qx5 qx6 qx7 qx8 hS9
  generalize V9 s9=w9 at hb9 ⊢
  clear hV9 s9 V9 ne9 St9
  clear x0 x1 x2 x3 x4 x5 x6 x7 x8
  go_wp2_with fail
  go_ret
  exact ⟨_,rfl,HN.out,bt_ Q1.out hb9⟩
 have d1:((nb:Int) != (pb:Int))=false:=by rw [e1];simp
 have E1:=hd_ e1
 by_cases e2:(ni:Int)=pI
 case neg =>
  have d2:((ni:Int) != pI)=true:=by rw [bne_iff_ne];exact e2
  have HN:=hd_ (HP1.out (fun h=>e2 (HL.out.1 h).2.1))
  clear e1 e2
  go_wp2_with fail
  obtain ⟨x0,x1,x2,x3,x4,x5,x6,x7,x8⟩:=HK.out _ br_
  refine wp_region_still_in (by kernel_rfl) (by kernel_rfl) fun St9 ne9 V9 hV9 hS9=>?_
  have qx0:=still_cell hV9 x0
  have qx1:=still_cell hV9 x1
  have qx2:=still_cell hV9 x2
  have qx3:=still_cell hV9 x3
  have qx4:=still_cell hV9 x4
  have qx5:=still_cell hV9 x5
  have qx6:=still_cell hV9 x6
  have qx7:=still_cell hV9 x7
  have qx8:=still_cell hV9 x8
  repeat (first|go_big_quiet_step (fail)|quiet_step (fail))
  refine wpQuiet_nil ?_
  intro _ hw9
  obtain ⟨s9,rfl⟩:=hw9
  have hb9:=hV9 s9
  clear qx0 qx1 qx2 qx3 qx4 qx5 qx6 qx7 qx8 hS9
  generalize V9 s9=w9 at hb9 ⊢
  clear hV9 s9 V9 ne9 St9
  clear x0 x1 x2 x3 x4 x5 x6 x7 x8
  go_wp2_with fail
  go_ret
  exact ⟨_,rfl,HN.out,bt_ Q1.out hb9⟩
 have d2:((ni:Int) != pI)=false:=by rw [e2];simp
 have E2:=hd_ e2
 by_cases e3:no=po
 case neg =>
  have d3:((no:Int) != (po:Int))=true:=by rw [bne_iff_ne];omega
  have HN:=hd_ (HP1.out (fun h=>e3 (HL.out.1 h).2.2.1))
  clear e1 e2 e3
  go_wp2_with fail
  obtain ⟨x0,x1,x2,x3,x4,x5,x6,x7,x8⟩:=HK.out _ br_
  refine wp_region_still_in (by kernel_rfl) (by kernel_rfl) fun St9 ne9 V9 hV9 hS9=>?_
  have qx0:=still_cell hV9 x0
  have qx1:=still_cell hV9 x1
  have qx2:=still_cell hV9 x2
  have qx3:=still_cell hV9 x3
  have qx4:=still_cell hV9 x4
  have qx5:=still_cell hV9 x5
  have qx6:=still_cell hV9 x6
  have qx7:=still_cell hV9 x7
  have qx8:=still_cell hV9 x8
  repeat (first|go_big_quiet_step (fail)|quiet_step (fail))
  refine wpQuiet_nil ?_
  intro _ hw9
  obtain ⟨s9,rfl⟩:=hw9
  have hb9:=hV9 s9
  clear qx0 qx1 qx2 qx3 qx4 qx5 qx6 qx7 qx8 hS9
  generalize V9 s9=w9 at hb9 ⊢
  clear hV9 s9 V9 ne9 St9
  clear x0 x1 x2 x3 x4 x5 x6 x7 x8
  go_wp2_with fail
  go_ret
  exact ⟨_,rfl,HN.out,bt_ Q1.out hb9⟩
 have d3:((no:Int) != (po:Int))=false:=by rw [e3];simp
 have E3:=hd_ e3
 clear e1 e2 e3
 cases v1 with
 | false =>
  have HN:=hd_ (HP1.out (fun h=>by have:=(HL.out.1 h).2.2.2.1;cases this))
  go_wp2_with fail
  obtain ⟨x0,x1,x2,x3,x4,x5,x6,x7,x8⟩:=HK.out _ br_
  refine wp_region_still_in (by kernel_rfl) (by kernel_rfl) fun St9 ne9 V9 hV9 hS9=>?_
  have qx0:=still_cell hV9 x0
  have qx1:=still_cell hV9 x1
  have qx2:=still_cell hV9 x2
  have qx3:=still_cell hV9 x3
  have qx4:=still_cell hV9 x4
  have qx5:=still_cell hV9 x5
  have qx6:=still_cell hV9 x6
  have qx7:=still_cell hV9 x7
  have qx8:=still_cell hV9 x8
  repeat (first|go_big_quiet_step ((go_at_call 46;exact Calls.still hV9 hS9 (HA1.out _ (bt_ Q1.out (hV9 _)) (by omega))))|quiet_step ((go_at_call 46;exact Calls.still hV9 hS9 (HA1.out _ (bt_ Q1.out (hV9 _)) (by omega)))))
  refine wpQuiet_nil ?_
  intro _ hw9
  obtain ⟨s9,rfl⟩:=hw9
  have hb9:=hV9 s9
  clear qx0 qx1 qx2 qx3 qx4 qx5 qx6 qx7 qx8 hS9
  generalize V9 s9=w9 at hb9 ⊢
  clear hV9 s9 V9 ne9 St9
  clear x0 x1 x2 x3 x4 x5 x6 x7 x8
  go_wp2_with fail
  go_ret
  exact ⟨_,rfl,HN.out,bt_ Q1.out hb9⟩
 | true =>
  go_wp2_with fail
  refine wp_region_held_drew (S:=(fun w'=>w'.cell? ⟨w.heap.size,0,none⟩=some (.int .i64 W)∧w'.cell? ⟨w.heap.size,1,none⟩=some (.int .i64 H)∧w'.cell? ⟨w.heap.size,2,none⟩=some (.int .i64 T)∧w'.cell? ⟨w.heap.size+1,0,none⟩=some (.int .i64 pI)∧w'.cell? ⟨w.heap.size+1,1,none⟩=some (.slice P.AB pb P.cB)∧w'.cell? ⟨w.heap.size+1,2,none⟩=some (.slice P.AO po P.cO)∧w'.cell? ⟨w.heap.size+1+1,0,none⟩=some (.slice S.AB nb S.cB)∧w'.cell? ⟨w.heap.size+1+1,1,none⟩=some (.slice S.AI ni S.cI)∧w'.cell? ⟨w.heap.size+1+1,2,none⟩=some (.slice S.AO no S.cO))) (by kernel_rfl) ?_ (fun hh=>?_)
  ·(first|exact HK.out _ br_|exact HK.out _ bd_|exact HK.out _ Q3.out|exact HK.out _ (bt_ Q3.out (bn_ _ _))|exact HK.out _ Q4.out|exact HK.out _ Q5.out|exact HK.out _ Q6.out|exact HK.out _ Q7.out)
  refine tk_ 0 oPl0 (v:=?_) ?_ ?_
  rotate_left
  ·intro w hSw;(try dsimp only at hSw);go_simp;(try with_reducible rfl)
  try simp only [Act.put,la_,lz_,ls_]
  refine tk_ 1 oPl1 (v:=?_) ?_ ?_
  rotate_left
  ·intro w hSw;(try dsimp only at hSw);go_simp;(try with_reducible rfl)
  try simp only [Act.put,la_,lz_,ls_]
  refine tk_ 2 oPl2 (v:=?_) ?_ ?_
  rotate_left
  ·intro w hSw;(try dsimp only at hSw);go_simp;(try with_reducible rfl)
  try simp only [Act.put,la_,lz_,ls_]
  refine tk_ 3 oPl3 (v:=?_) ?_ ?_
  rotate_left
  ·intro w hSw;(try dsimp only at hSw);go_simp;(try with_reducible rfl)
  try simp only [Act.put,la_,lz_,ls_]
  refine tk_ 4 oPl4 (v:=?_) ?_ ?_
  rotate_left
  ·intro w hSw;(try dsimp only at hSw);go_simp;(try with_reducible rfl)
  try simp only [Act.put,la_,lz_,ls_]
  refine tk_ 5 oPl5 (v:=?_) ?_ ?_
  rotate_left
  ·intro w hSw;(try dsimp only at hSw);go_simp;(try with_reducible rfl)
  try simp only [Act.put,la_,lz_,ls_]
  refine tk_ 6 oPl6 (v:=?_) ?_ ?_
  rotate_left
  ·intro w hSw;(try dsimp only at hSw);go_simp;(try with_reducible rfl)
  try simp only [Act.put,la_,lz_,ls_]
  refine tk_ 7 oPl7 (v:=?_) ?_ ?_
  rotate_left
  ·intro w hSw;(try dsimp only at hSw);go_simp;(try with_reducible rfl)
  try simp only [Act.put,la_,lz_,ls_]
  refine tk_ 8 oPl8 (v:=?_) ?_ ?_
  rotate_left
  ·intro w hSw;(try dsimp only at hSw);go_simp;(try with_reducible rfl)
  try simp only [Act.put,la_,lz_,ls_]
  refine tk_ 9 oPl9 (v:=?_) ?_ ?_
  rotate_left
  ·intro w hSw;(try dsimp only at hSw);go_simp;(try with_reducible rfl)
  try simp only [Act.put,la_,lz_,ls_]
  refine tk_ 10 oPl10 (v:=?_) ?_ ?_
  rotate_left
  ·intro w hSw;(try dsimp only at hSw);go_simp;(try with_reducible rfl)
  try simp only [Act.put,la_,lz_,ls_]
  refine tk_ 11 oPl11 (v:=?_) ?_ ?_
  rotate_left
  ·intro w hSw;(try dsimp only at hSw);go_simp;(try with_reducible rfl)
  try simp only [Act.put,la_,lz_,ls_]
  refine tk_ 12 oPl12 (v:=?_) ?_ ?_
  rotate_left
  ·intro w hSw;(try dsimp only at hSw);go_simp;(try with_reducible rfl)
  try simp only [Act.put,la_,lz_,ls_]
  refine tk_ 13 oPl13 (v:=?_) ?_ ?_
  rotate_left
  ·intro w hSw;(try dsimp only at hSw);go_simp;(try with_reducible rfl)
  try simp only [Act.put,la_,lz_,ls_]
  refine tk_ 14 oPl14 (v:=?_) ?_ ?_
  rotate_left
  ·intro w hSw;(try dsimp only at hSw);go_simp;(try with_reducible rfl)
  try simp only [Act.put,la_,lz_,ls_]
  refine tk_ 15 oPl15 (v:=?_) ?_ ?_
  rotate_left
  ·intro w hSw;(try dsimp only at hSw);go_simp;(try with_reducible rfl)
  try simp only [Act.put,la_,lz_,ls_]
  refine tk_ 16 oPl16 (v:=?_) ?_ ?_
  rotate_left
  ·intro w hSw;(try dsimp only at hSw);go_simp;(try with_reducible rfl)
  try simp only [Act.put,la_,lz_,ls_]
  refine tk_ 17 oPl17 (v:=?_) ?_ ?_
  rotate_left
  ·intro w hSw;(try dsimp only at hSw);go_simp;(try with_reducible rfl)
  try simp only [Act.put,la_,lz_,ls_]
  refine tk_ 18 oPl18 (v:=?_) ?_ ?_
  rotate_left
  ·intro w hSw;(try dsimp only at hSw);go_simp;(try with_reducible rfl)
  try simp only [Act.put,la_,lz_,ls_]
  refine tk_ 19 oPl19 (v:=?_) ?_ ?_
  rotate_left
  ·intro w hSw;(try dsimp only at hSw);go_simp;(try with_reducible rfl)
  try simp only [Act.put,la_,lz_,ls_]
  refine tk_ 20 oPl20 (v:=?_) ?_ ?_
  rotate_left
  ·intro w hSw;(try dsimp only at hSw);go_simp;(try with_reducible rfl)
  try simp only [Act.put,la_,lz_,ls_]
  refine tk_ 21 oPl21 (v:=?_) ?_ ?_
  rotate_left
  ·intro w hSw;(try dsimp only at hSw);go_simp;(try with_reducible rfl)
  try simp only [Act.put,la_,lz_,ls_]
  refine tk_ 22 oPl22 (v:=?_) ?_ ?_
  rotate_left
  ·intro w hSw;(try dsimp only at hSw);go_simp;(try with_reducible rfl)
  try simp only [Act.put,la_,lz_,ls_]
  refine tk_ 23 oPl23 (v:=?_) ?_ ?_
  rotate_left
  ·intro w hSw;(try dsimp only at hSw);go_simp;(try with_reducible rfl)
  try simp only [Act.put,la_,lz_,ls_]
  refine tk_ 24 oPl24 (v:=?_) ?_ ?_
  rotate_left
  ·intro w hSw;(try dsimp only at hSw);go_simp;(try with_reducible rfl)
  try simp only [Act.put,la_,lz_,ls_]
  refine tk_ 25 oPl25 (v:=?_) ?_ ?_
  rotate_left
  ·intro w hSw;(try dsimp only at hSw);go_simp;(try with_reducible rfl)
  try simp only [Act.put,la_,lz_,ls_]
  refine tk_ 26 oPl26 (v:=?_) ?_ ?_
  rotate_left
  ·intro w hSw;(try dsimp only at hSw);go_simp;(try with_reducible rfl)
  try simp only [Act.put,la_,lz_,ls_]
  refine tk_ 27 oPl27 (v:=?_) ?_ ?_
  rotate_left
  ·intro w hSw;(try dsimp only at hSw);go_simp;(try with_reducible rfl)
  try simp only [Act.put,la_,lz_,ls_]
  refine tk_ 28 oPl28 (v:=?_) ?_ ?_
  rotate_left
  ·intro w hSw;(try dsimp only at hSw);go_simp;(try with_reducible rfl)
  try simp only [Act.put,la_,lz_,ls_]
  refine tk_ 29 oPl29 (v:=?_) ?_ ?_
  rotate_left
  ·intro w hSw;(try dsimp only at hSw);go_simp;(try with_reducible rfl)
  try simp only [Act.put,la_,lz_,ls_]
  refine tk_ 30 oPl30 (v:=?_) ?_ ?_
  rotate_left
  ·intro w hSw;(try dsimp only at hSw);go_simp;(try with_reducible rfl)
  try simp only [Act.put,la_,lz_,ls_]
  refine tk_ 31 oPl31 (v:=?_) ?_ ?_
  rotate_left
  ·intro w hSw;(try dsimp only at hSw);go_simp;(try with_reducible rfl)
  try simp only [Act.put,la_,lz_,ls_]
  refine rd_ [32] ?_
  refine AllReadyH.cons (o:=oPl32) rfl (fun K hK=>?_) AllReadyH.nil
  go_simp
  with_reducible refine (HA1.out _ ?_ ?_).mono ?_
  ·exact bt_ Q1.out bd_
  ·omega
  rintro e w3 ⟨rfl,hb3⟩
  have Q3:=hd_ (bt_ bd_ hb3)
  clear hb3
  refine hK.out _ _ ?_ (fun hh=>?_)
  ·(first|exact HK.out _ br_|exact HK.out _ bd_|exact HK.out _ Q3.out|exact HK.out _ (bt_ Q3.out (bn_ _ _))|exact HK.out _ Q4.out|exact HK.out _ Q5.out|exact HK.out _ Q6.out|exact HK.out _ Q7.out)
  clear hK K
  try simp only [Act.put,la_,lz_,ls_]
  refine tk_ 33 oPl33 (v:=?_) ?_ ?_
  rotate_left
  ·intro w hSw;(try dsimp only at hSw);go_simp;(try with_reducible rfl)
  try simp only [Act.put,la_,lz_,ls_]
  refine tk_ 34 oPl34 (v:=?_) ?_ ?_
  rotate_left
  ·intro w hSw;(try dsimp only at hSw);go_simp;(try with_reducible rfl)
  try simp only [Act.put,la_,lz_,ls_]
  refine tk_ 35 oPl35 (v:=?_) ?_ ?_
  rotate_left
  ·intro w hSw;(try dsimp only at hSw);go_simp;(try with_reducible rfl)
  try simp only [Act.put,la_,lz_,ls_]
  refine tk_ 36 oPl36 (v:=?_) ?_ ?_
  rotate_left
  ·intro w hSw;(try dsimp only at hSw);go_simp;(try with_reducible rfl)
  try simp only [Act.put,la_,lz_,ls_]
  refine tk_ 37 oPl37 (v:=?_) ?_ ?_
  rotate_left
  ·intro w hSw;(try dsimp only at hSw);go_simp;(try with_reducible rfl)
  try simp only [Act.put,la_,lz_,ls_]
  refine tk_ 38 oPl38 (v:=?_) ?_ ?_
  rotate_left
  ·intro w hSw;(try dsimp only at hSw);go_simp;(try with_reducible rfl)
  try simp only [Act.put,la_,lz_,ls_]
  refine tk_ 39 oPl39 (v:=?_) ?_ ?_
  rotate_left
  ·intro w hSw;(try dsimp only at hSw);go_simp;(try with_reducible rfl)
  try simp only [Act.put,la_,lz_,ls_]
  refine tk_ 42 oPl42 (v:=?_) ?_ ?_
  rotate_left
  ·intro w hSw;(try dsimp only at hSw);go_simp;(try with_reducible rfl)
  try simp only [Act.put,la_,lz_,ls_]
  refine tk_ 43 oPl43 (v:=?_) ?_ ?_
  rotate_left
  ·intro w hSw;(try dsimp only at hSw);go_simp;(try with_reducible rfl)
  try simp only [Act.put,la_,lz_,ls_]
  refine tk_ 44 oPl44 (v:=?_) ?_ ?_
  rotate_left
  ·intro w hSw;(try dsimp only at hSw);go_simp;(try with_reducible rfl)
  try simp only [Act.put,la_,lz_,ls_]
  refine tk_ 45 oPl45 (v:=?_) ?_ ?_
  rotate_left
  ·intro w hSw;(try dsimp only at hSw);go_simp;(try with_reducible rfl)
  try simp only [Act.put,la_,lz_,ls_]
  refine tk_ 46 oPl46 (v:=?_) ?_ ?_
  rotate_left
  ·intro w hSw;(try dsimp only at hSw);go_simp;(try with_reducible rfl)
  try simp only [Act.put,la_,lz_,ls_]
  refine tk_ 47 oPl47 (v:=?_) ?_ ?_
  rotate_left
  ·intro w hSw;(try dsimp only at hSw);go_simp;(try with_reducible rfl)
  try simp only [Act.put,la_,lz_,ls_]
  refine rd_ [40] ?_
  refine AllReadyH.cons (o:=oPl40) rfl (fun K hK=>?_) AllReadyH.nil
  go_simp
  refine hK.out _ _ ?_ (fun hh=>?_)
  ·(first|exact HK.out _ br_|exact HK.out _ bd_|exact HK.out _ Q3.out|exact HK.out _ (bt_ Q3.out (bn_ _ _))|exact HK.out _ Q4.out|exact HK.out _ Q5.out|exact HK.out _ Q6.out|exact HK.out _ Q7.out)
  clear hK K
  try simp only [Act.put,la_,lz_,ls_]
  refine rd_ [41] ?_
  refine AllReadyH.cons (o:=oPl41) rfl (fun K hK=>?_) AllReadyH.nil
  go_simp
  with_reducible refine (HCC.out _ _ ?_ ?_).mono ?_
  ·exact bt_ (bt_ Q1.out Q3.out) (bn_ _ _)
  ·exact Blk.made _ _ _
  rintro e w4 ⟨A4,c4,rfl,hb4,hr4⟩
  have Q4:=hd_ (bt_ (bt_ Q3.out (bn_ _ _)) hb4)
  have V4:=hd_ hr4
  clear hb4 hr4
  refine hK.out _ _ ?_ (fun hh=>?_)
  ·(first|exact HK.out _ br_|exact HK.out _ bd_|exact HK.out _ Q3.out|exact HK.out _ (bt_ Q3.out (bn_ _ _))|exact HK.out _ Q4.out|exact HK.out _ Q5.out|exact HK.out _ Q6.out|exact HK.out _ Q7.out)
  clear hK K
  try simp only [Act.put,la_,lz_,ls_]
  refine rd_ [48] ?_
  refine AllReadyH.cons (o:=oPl48) rfl (fun K hK=>?_) AllReadyH.nil
  go_simp
  with_reducible refine (HA2.out _ _ _ ?_ V4.out).mono ?_
  ·omega
  rintro e w5 ⟨rfl,hb5⟩
  have Q5:=hd_ (bt_ Q4.out hb5)
  clear hb5
  refine hK.out _ _ ?_ (fun hh=>?_)
  ·(first|exact HK.out _ br_|exact HK.out _ bd_|exact HK.out _ Q3.out|exact HK.out _ (bt_ Q3.out (bn_ _ _))|exact HK.out _ Q4.out|exact HK.out _ Q5.out|exact HK.out _ Q6.out|exact HK.out _ Q7.out)
  clear hK K
  try simp only [Act.put,la_,lz_,ls_]
  refine tk_ 49 oPl49 (v:=?_) ?_ ?_
  rotate_left
  ·intro w hSw;(try dsimp only at hSw);go_simp;(try with_reducible rfl)
  try simp only [Act.put,la_,lz_,ls_]
  refine tk_ 50 oPl50 (v:=?_) ?_ ?_
  rotate_left
  ·intro w hSw;(try dsimp only at hSw);go_simp;(try with_reducible rfl)
  try simp only [Act.put,la_,lz_,ls_]
  refine wpAnyH_done (by kernel_rfl) ?_ _
  cases v2 with
  | false =>
   have HN:=hd_ (HP1.out (fun h=>by have:=(HL.out.1 h).2.2.2.2;cases this))
   go_wp2_with fail
   go_ret
   exact ⟨1,(by first|rfl|trivial),HN.out,bt_ Q1.out Q5.out⟩
  | true =>
   have HN:=hd_ (HP0.out (HL.out.2 ⟨E1.out,E2.out,E3.out,by trivial,by trivial⟩))
   go_wp2_with fail
   go_ret
   exact ⟨0,(by first|rfl|trivial),HN.out,bt_ Q1.out Q5.out⟩
theorem rplace29_any (W H T:Int) (P:PK) (S:SPT) (w:World) (hin:P.In w) (hf:P.fit) (hsi:S.In w) (hsf:S.fit) :
  Calls Tryz.prog 24 #[.agg #[.int .i64 W,.int .i64 H,.int .i64 T],.agg #[.int .i64 P.I,.slice P.AB P.bs.length P.cB,.slice P.AO P.outs.length P.cO],.agg #[.slice S.AB S.sb.length S.cB,.slice S.AI S.si.length S.cI,.slice S.AO S.so.length S.cO]] w fun e w'=>∃ x,e=.returned (.int .i64 x)∧PlcR W H T P S x∧Below w.heap.size w w':=by
 have hb0:=bt_ (bt_ (bn_ w (.cells #[.int .i64 W,.int .i64 H,.int .i64 T] 23)) (bn_ _ (.cells #[.int .i64 P.I,.slice P.AB P.bs.length P.cB,.slice P.AO P.outs.length P.cO] 27))) (bn_ _ (.cells #[.slice S.AB S.sb.length S.cB,.slice S.AI S.si.length S.cI,.slice S.AO S.so.length S.cO] 29))
 have X0:=hd_ (((Blk.made w 23 #[.int .i64 W,.int .i64 H,.int .i64 T]).alloc (.cells #[.int .i64 P.I,.slice P.AB P.bs.length P.cB,.slice P.AO P.outs.length P.cO] 27)).alloc (.cells #[.slice S.AB S.sb.length S.cB,.slice S.AI S.si.length S.cI,.slice S.AO S.so.length S.cO] 29))
 have Y0:=hd_ ((blk_made1 w (.cells #[.int .i64 W,.int .i64 H,.int .i64 T] 23) 27 #[.int .i64 P.I,.slice P.AB P.bs.length P.cB,.slice P.AO P.outs.length P.cO]).alloc (.cells #[.slice S.AB S.sb.length S.cB,.slice S.AI S.si.length S.cI,.slice S.AO S.so.length S.cO] 29))
 have Z0:=hd_ (show Blk (((w.alloc (.cells #[.int .i64 W,.int .i64 H,.int .i64 T] 23)).alloc (.cells #[.int .i64 P.I,.slice P.AB P.bs.length P.cB,.slice P.AO P.outs.length P.cO] 27)).alloc (.cells #[.slice S.AB S.sb.length S.cB,.slice S.AI S.si.length S.cI,.slice S.AO S.so.length S.cO] 29)) (w.heap.size+1+1) 29 #[.slice S.AB S.sb.length S.cB,.slice S.AI S.si.length S.cI,.slice S.AO S.so.length S.cO] from by
  have:=Blk.made ((w.alloc (.cells #[.int .i64 W,.int .i64 H,.int .i64 T] 23)).alloc (.cells #[.int .i64 P.I,.slice P.AB P.bs.length P.cB,.slice P.AO P.outs.length P.cO] 27)) 29 #[.slice S.AB S.sb.length S.cB,.slice S.AI S.si.length S.cI,.slice S.AO S.so.length S.cO]
  simpa using this)
 have HB:=hd_ (rbelow29_any W H T P _ (hin.later hb0) hf)
 have HSI:=hd_ hsi
 have Q0:=hd_ hb0
 have hf1:=hsf.b
 have hf2:=hsf.i
 have hf3:=hsf.o
 have hok0:∀ v1 v2,decide (padsOk (W*H) S.sb)=v1->decide (padsOk (2*(W+H)) (S.si++S.so))=v2->(S.okP P W H↔(S.sb.length=P.bs.length∧(S.si.length:Int)=P.I∧S.so.length=P.outs.length∧v1=true∧v2=true)):=fun v1 v2 h1 h2=>by unfold SPT.okP;rw [<- h1,<- h2,decide_eq_true_eq,decide_eq_true_eq]
 obtain ⟨v1,hv1⟩:∃ v,decide (padsOk (W*H) S.sb)=v:=⟨_,rfl⟩
 obtain ⟨v2,hv2⟩:∃ v,decide (padsOk (2*(W+H)) (S.si++S.so))=v:=⟨_,rfl⟩
 have HL:=hd_ (hok0 v1 v2 hv1 hv2)
 have HV1:=hd_ hv1
 have HV2:=hd_ hv2
 clear hok0 hv1 hv2
 have HA1:=hd_ (fun (W':World) (hW:Below w.heap.size w W')=>ralone29_any W' S.AB S.sb.length S.cB S.sb (W*H) v1 HV1.out (HSI.out.b.later hW) (by omega))
 have HA2:=hd_ (fun (W':World) (A:Option Addr) (c:Nat) (hr:Rd W' 1 A (S.si.length+S.so.length) c (ints (S.si++S.so)))=>ralone29_any W' A (S.si.length+S.so.length) c (S.si++S.so) (2*(W+H)) v2 HV2.out hr (by omega))
 have HBO:=hd_ (fun (W':World) (hW:Below w.heap.size w W')=>rboth29_len S W' (hsi.later hW) hsf)
 obtain ⟨nb,hnb⟩:∃ n,S.sb.length=n:=⟨_,rfl⟩
 obtain ⟨ni,hni⟩:∃ n,S.si.length=n:=⟨_,rfl⟩
 obtain ⟨no,hno⟩:∃ n,S.so.length=n:=⟨_,rfl⟩
 obtain ⟨pb,hpb⟩:∃ n,P.bs.length=n:=⟨_,rfl⟩
 obtain ⟨po,hpo⟩:∃ n,P.outs.length=n:=⟨_,rfl⟩
 obtain ⟨pI,hpI⟩:∃ n,P.I=n:=⟨_,rfl⟩
 simp only [hnb,hni,hno,hpb,hpo,hpI] at X0 Y0 Z0 Q0 HB HL hf1 hf2 hf3 HA1 HA2 HBO ⊢
 clear hpb hpo hpI hin hf hsi hsf hb0
 have HLI:=hd_ hni
 have HLO:=hd_ hno
 clear hnb hni hno
 have a0:=X0.out.cell 0
 have a1:=X0.out.cell 1
 have a2:=X0.out.cell 2
 have b0:=Y0.out.cell 0
 have b1:=Y0.out.cell 1
 have b2:=Y0.out.cell 2
 go_enter Tryz.func24,Tryz.ntmps24
 go_wp2_with fail
 refine HB.out.mono ?_
 rintro e w1 ⟨y,rfl,hy,hb1⟩
 have Q1:=hd_ (bt_ Q0.out hb1)
 have X1:=hd_ (X0.out.keep hb1)
 have Y1:=hd_ (Y0.out.keep hb1)
 have Z1:=hd_ (Z0.out.keep hb1)
 have HY:=hd_ hy
 clear hb1 hy HB a0 a1 a2 b0 b1 b2
 by_cases hy0:y=0
 case neg =>
  have hne:(y != 0)=true:=by rw [bne_iff_ne];exact hy0
  have HNE:=hd_ hy0
  clear hy0
  go_wp2_with fail
  go_ret
  exact ⟨_,rfl,.inl ⟨HNE.out,HY.out⟩,Q1.out⟩
 subst hy0
 have hok:okA W H T:=by
  rcases HY.out with ⟨-,h4⟩|⟨h4,-⟩
  ·cases h4
  ·exact h4
 have HOK:=hd_ hok
 unfold okA at hok
 have m1:=mul_bd (a:=W) (b:=H) (A:=16) (B:=16) (by omega) (by omega) (by omega) (by omega)
 have hwr:IntKind.i64.wrap (W*H)=W*H:=IntWalk.i64_in _ (by omega)
 have hwp:IntKind.i64.wrap (W+H)=W+H:=IntWalk.i64_in _ (by omega)
 have hwp2:IntKind.i64.wrap (2*(W+H))=2*(W+H):=IntWalk.i64_in _ (by omega)
 have HP0:=hd_ (fun (h:S.okP P W H)=>show PlcR W H T P S 0 from .inr ⟨HY.out,.inl ⟨h,rfl⟩⟩)
 have HP1:=hd_ (fun (h:¬ S.okP P W H)=>show PlcR W H T P S 1 from .inr ⟨HY.out,.inr ⟨h,rfl⟩⟩)
 have HK:=hd_ (show ∀ w':World,Below w1.heap.size w1 w'->(w'.cell? ⟨w.heap.size,0,none⟩=some (.int .i64 W)∧w'.cell? ⟨w.heap.size,1,none⟩=some (.int .i64 H)∧w'.cell? ⟨w.heap.size,2,none⟩=some (.int .i64 T)∧w'.cell? ⟨w.heap.size+1,0,none⟩=some (.int .i64 pI)∧w'.cell? ⟨w.heap.size+1,1,none⟩=some (.slice P.AB pb P.cB)∧w'.cell? ⟨w.heap.size+1,2,none⟩=some (.slice P.AO po P.cO)∧w'.cell? ⟨w.heap.size+1+1,0,none⟩=some (.slice S.AB nb S.cB)∧w'.cell? ⟨w.heap.size+1+1,1,none⟩=some (.slice S.AI ni S.cI)∧w'.cell? ⟨w.heap.size+1+1,2,none⟩=some (.slice S.AO no S.cO)) from fun W' hW=>⟨(X1.out.keep hW).cell 0,(X1.out.keep hW).cell 1,(X1.out.keep hW).cell 2,(Y1.out.keep hW).cell 0,(Y1.out.keep hW).cell 1,(Y1.out.keep hW).cell 2,(Z1.out.keep hW).cell 0,(Z1.out.keep hW).cell 1,(Z1.out.keep hW).cell 2⟩)
 by_cases e1:nb=pb
 case neg =>
  have d1:((nb:Int) != (pb:Int))=true:=by rw [bne_iff_ne];omega
  have HN:=hd_ (HP1.out (fun h=>e1 (HL.out.1 h).1))
  clear e1
  go_wp2_with fail
  obtain ⟨x0,x1,x2,x3,x4,x5,x6,x7,x8⟩:=HK.out _ br_
  refine wp_region_still_in (by kernel_rfl) (by kernel_rfl) fun St9 ne9 V9 hV9 hS9=>?_
  have qx0:=still_cell hV9 x0
  have qx1:=still_cell hV9 x1
  have qx2:=still_cell hV9 x2
  have qx3:=still_cell hV9 x3
  have qx4:=still_cell hV9 x4
  have qx5:=still_cell hV9 x5
  have qx6:=still_cell hV9 x6
  have qx7:=still_cell hV9 x7
  have qx8:=still_cell hV9 x8
  repeat (first|go_big_quiet_step (fail)|quiet_step (fail))
  refine wpQuiet_nil ?_
  intro _ hw9
  obtain ⟨s9,rfl⟩:=hw9
  have hb9:=hV9 s9
  clear qx0 qx1 qx2 qx3 qx4 qx5 qx6 qx7 qx8 hS9
  generalize V9 s9=w9 at hb9 ⊢
  clear hV9 s9 V9 ne9 St9
  clear x0 x1 x2 x3 x4 x5 x6 x7 x8
  go_wp2_with fail
  go_ret
  exact ⟨_,rfl,HN.out,bt_ Q1.out hb9⟩
 have d1:((nb:Int) != (pb:Int))=false:=by rw [e1];simp
 have E1:=hd_ e1
 by_cases e2:(ni:Int)=pI
 case neg =>
  have d2:((ni:Int) != pI)=true:=by rw [bne_iff_ne];exact e2
  have HN:=hd_ (HP1.out (fun h=>e2 (HL.out.1 h).2.1))
  clear e1 e2
  go_wp2_with fail
  obtain ⟨x0,x1,x2,x3,x4,x5,x6,x7,x8⟩:=HK.out _ br_
  refine wp_region_still_in (by kernel_rfl) (by kernel_rfl) fun St9 ne9 V9 hV9 hS9=>?_
  have qx0:=still_cell hV9 x0
  have qx1:=still_cell hV9 x1
  have qx2:=still_cell hV9 x2
  have qx3:=still_cell hV9 x3
  have qx4:=still_cell hV9 x4
  have qx5:=still_cell hV9 x5
  have qx6:=still_cell hV9 x6
  have qx7:=still_cell hV9 x7
  have qx8:=still_cell hV9 x8
  repeat (first|go_big_quiet_step (fail)|quiet_step (fail))
  refine wpQuiet_nil ?_
  intro _ hw9
  obtain ⟨s9,rfl⟩:=hw9
  have hb9:=hV9 s9
  clear qx0 qx1 qx2 qx3 qx4 qx5 qx6 qx7 qx8 hS9
  generalize V9 s9=w9 at hb9 ⊢
  clear hV9 s9 V9 ne9 St9
  clear x0 x1 x2 x3 x4 x5 x6 x7 x8
  go_wp2_with fail
  go_ret
  exact ⟨_,rfl,HN.out,bt_ Q1.out hb9⟩
 have d2:((ni:Int) != pI)=false:=by rw [e2];simp
 have E2:=hd_ e2
 by_cases e3:no=po
 case neg =>
  have d3:((no:Int) != (po:Int))=true:=by rw [bne_iff_ne];omega
  have HN:=hd_ (HP1.out (fun h=>e3 (HL.out.1 h).2.2.1))
  clear e1 e2 e3
  go_wp2_with fail
  obtain ⟨x0,x1,x2,x3,x4,x5,x6,x7,x8⟩:=HK.out _ br_
  refine wp_region_still_in (by kernel_rfl) (by kernel_rfl) fun St9 ne9 V9 hV9 hS9=>?_
  have qx0:=still_cell hV9 x0
  have qx1:=still_cell hV9 x1
  have qx2:=still_cell hV9 x2
  have qx3:=still_cell hV9 x3
  have qx4:=still_cell hV9 x4
  have qx5:=still_cell hV9 x5
  have qx6:=still_cell hV9 x6
  have qx7:=still_cell hV9 x7
  have qx8:=still_cell hV9 x8
  repeat (first|go_big_quiet_step (fail)|quiet_step (fail))
  refine wpQuiet_nil ?_
  intro _ hw9
  obtain ⟨s9,rfl⟩:=hw9
  have hb9:=hV9 s9
  clear qx0 qx1 qx2 qx3 qx4 qx5 qx6 qx7 qx8 hS9
  generalize V9 s9=w9 at hb9 ⊢
  clear hV9 s9 V9 ne9 St9
  clear x0 x1 x2 x3 x4 x5 x6 x7 x8
  go_wp2_with fail
  go_ret
  exact ⟨_,rfl,HN.out,bt_ Q1.out hb9⟩
 have d3:((no:Int) != (po:Int))=false:=by rw [e3];simp
 have E3:=hd_ e3
 clear e1 e2 e3
 cases v1 with
 | false =>
  have HN:=hd_ (HP1.out (fun h=>by have:=(HL.out.1 h).2.2.2.1;cases this))
  go_wp2_with fail
  obtain ⟨x0,x1,x2,x3,x4,x5,x6,x7,x8⟩:=HK.out _ br_
  refine wp_region_still_in (by kernel_rfl) (by kernel_rfl) fun St9 ne9 V9 hV9 hS9=>?_
  have qx0:=still_cell hV9 x0
  have qx1:=still_cell hV9 x1
  have qx2:=still_cell hV9 x2
  have qx3:=still_cell hV9 x3
  have qx4:=still_cell hV9 x4
  have qx5:=still_cell hV9 x5
  have qx6:=still_cell hV9 x6
  have qx7:=still_cell hV9 x7
  have qx8:=still_cell hV9 x8
  repeat (first|go_big_quiet_step (first|((go_at_call 78;exact Calls.still hV9 hS9 (HA1.out _ (bt_ Q1.out (hV9 _)))))|((go_at_call 79;exact Calls.still hV9 hS9 (rtiles29_any W H T _ HOK.out))))|quiet_step (first|((go_at_call 78;exact Calls.still hV9 hS9 (HA1.out _ (bt_ Q1.out (hV9 _)))))|((go_at_call 79;exact Calls.still hV9 hS9 (rtiles29_any W H T _ HOK.out)))))
  refine wpQuiet_nil ?_
  intro _ hw9
  obtain ⟨s9,rfl⟩:=hw9
  have hb9:=hV9 s9
  clear qx0 qx1 qx2 qx3 qx4 qx5 qx6 qx7 qx8 hS9
  generalize V9 s9=w9 at hb9 ⊢
  clear hV9 s9 V9 ne9 St9
  clear x0 x1 x2 x3 x4 x5 x6 x7 x8
  go_wp2_with fail
  go_ret
  exact ⟨_,rfl,HN.out,bt_ Q1.out hb9⟩
 | true =>
  go_wp2_with fail
  refine wp_region_held_drew (S:=(fun w'=>w'.cell? ⟨w.heap.size,0,none⟩=some (.int .i64 W)∧w'.cell? ⟨w.heap.size,1,none⟩=some (.int .i64 H)∧w'.cell? ⟨w.heap.size,2,none⟩=some (.int .i64 T)∧w'.cell? ⟨w.heap.size+1,0,none⟩=some (.int .i64 pI)∧w'.cell? ⟨w.heap.size+1,1,none⟩=some (.slice P.AB pb P.cB)∧w'.cell? ⟨w.heap.size+1,2,none⟩=some (.slice P.AO po P.cO)∧w'.cell? ⟨w.heap.size+1+1,0,none⟩=some (.slice S.AB nb S.cB)∧w'.cell? ⟨w.heap.size+1+1,1,none⟩=some (.slice S.AI ni S.cI)∧w'.cell? ⟨w.heap.size+1+1,2,none⟩=some (.slice S.AO no S.cO))) (by kernel_rfl) ?_ (fun hh=>?_)
  ·(first|exact HK.out _ br_|exact HK.out _ bd_|exact HK.out _ Q3.out|exact HK.out _ (bt_ Q3.out (bn_ _ _))|exact HK.out _ Q4.out|exact HK.out _ Q5.out|exact HK.out _ Q6.out|exact HK.out _ Q7.out)
  refine tk_ 0 oPl51 (v:=?_) ?_ ?_
  rotate_left
  ·intro w hSw;(try dsimp only at hSw);go_simp;(try with_reducible rfl)
  try simp only [Act.put,la_,lz_,ls_]
  refine tk_ 1 oPl52 (v:=?_) ?_ ?_
  rotate_left
  ·intro w hSw;(try dsimp only at hSw);go_simp;(try with_reducible rfl)
  try simp only [Act.put,la_,lz_,ls_]
  refine tk_ 2 oPl53 (v:=?_) ?_ ?_
  rotate_left
  ·intro w hSw;(try dsimp only at hSw);go_simp;(try with_reducible rfl)
  try simp only [Act.put,la_,lz_,ls_]
  refine tk_ 3 oPl54 (v:=?_) ?_ ?_
  rotate_left
  ·intro w hSw;(try dsimp only at hSw);go_simp;(try with_reducible rfl)
  try simp only [Act.put,la_,lz_,ls_]
  refine tk_ 4 oPl55 (v:=?_) ?_ ?_
  rotate_left
  ·intro w hSw;(try dsimp only at hSw);go_simp;(try with_reducible rfl)
  try simp only [Act.put,la_,lz_,ls_]
  refine tk_ 5 oPl56 (v:=?_) ?_ ?_
  rotate_left
  ·intro w hSw;(try dsimp only at hSw);go_simp;(try with_reducible rfl)
  try simp only [Act.put,la_,lz_,ls_]
  refine tk_ 6 oPl57 (v:=?_) ?_ ?_
  rotate_left
  ·intro w hSw;(try dsimp only at hSw);go_simp;(try with_reducible rfl)
  try simp only [Act.put,la_,lz_,ls_]
  refine tk_ 7 oPl58 (v:=?_) ?_ ?_
  rotate_left
  ·intro w hSw;(try dsimp only at hSw);go_simp;(try with_reducible rfl)
  try simp only [Act.put,la_,lz_,ls_]
  refine tk_ 8 oPl59 (v:=?_) ?_ ?_
  rotate_left
  ·intro w hSw;(try dsimp only at hSw);go_simp;(try with_reducible rfl)
  try simp only [Act.put,la_,lz_,ls_]
  refine tk_ 9 oPl60 (v:=?_) ?_ ?_
  rotate_left
  ·intro w hSw;(try dsimp only at hSw);go_simp;(try with_reducible rfl)
  try simp only [Act.put,la_,lz_,ls_]
  refine tk_ 10 oPl61 (v:=?_) ?_ ?_
  rotate_left
  ·intro w hSw;(try dsimp only at hSw);go_simp;(try with_reducible rfl)
  try simp only [Act.put,la_,lz_,ls_]
  refine tk_ 11 oPl62 (v:=?_) ?_ ?_
  rotate_left
  ·intro w hSw;(try dsimp only at hSw);go_simp;(try with_reducible rfl)
  try simp only [Act.put,la_,lz_,ls_]
  refine tk_ 12 oPl63 (v:=?_) ?_ ?_
  rotate_left
  ·intro w hSw;(try dsimp only at hSw);go_simp;(try with_reducible rfl)
  try simp only [Act.put,la_,lz_,ls_]
  refine tk_ 13 oPl64 (v:=?_) ?_ ?_
  rotate_left
  ·intro w hSw;(try dsimp only at hSw);go_simp;(try with_reducible rfl)
  try simp only [Act.put,la_,lz_,ls_]
  refine tk_ 14 oPl65 (v:=?_) ?_ ?_
  rotate_left
  ·intro w hSw;(try dsimp only at hSw);go_simp;(try with_reducible rfl)
  try simp only [Act.put,la_,lz_,ls_]
  refine tk_ 15 oPl66 (v:=?_) ?_ ?_
  rotate_left
  ·intro w hSw;(try dsimp only at hSw);go_simp;(try with_reducible rfl)
  try simp only [Act.put,la_,lz_,ls_]
  refine tk_ 16 oPl67 (v:=?_) ?_ ?_
  rotate_left
  ·intro w hSw;(try dsimp only at hSw);go_simp;(try with_reducible rfl)
  try simp only [Act.put,la_,lz_,ls_]
  refine tk_ 17 oPl68 (v:=?_) ?_ ?_
  rotate_left
  ·intro w hSw;(try dsimp only at hSw);go_simp;(try with_reducible rfl)
  try simp only [Act.put,la_,lz_,ls_]
  refine tk_ 18 oPl69 (v:=?_) ?_ ?_
  rotate_left
  ·intro w hSw;(try dsimp only at hSw);go_simp;(try with_reducible rfl)
  try simp only [Act.put,la_,lz_,ls_]
  refine tk_ 19 oPl70 (v:=?_) ?_ ?_
  rotate_left
  ·intro w hSw;(try dsimp only at hSw);go_simp;(try with_reducible rfl)
  try simp only [Act.put,la_,lz_,ls_]
  refine tk_ 20 oPl71 (v:=?_) ?_ ?_
  rotate_left
  ·intro w hSw;(try dsimp only at hSw);go_simp;(try with_reducible rfl)
  try simp only [Act.put,la_,lz_,ls_]
  refine tk_ 21 oPl72 (v:=?_) ?_ ?_
  rotate_left
  ·intro w hSw;(try dsimp only at hSw);go_simp;(try with_reducible rfl)
  try simp only [Act.put,la_,lz_,ls_]
  refine tk_ 22 oPl73 (v:=?_) ?_ ?_
  rotate_left
  ·intro w hSw;(try dsimp only at hSw);go_simp;(try with_reducible rfl)
  try simp only [Act.put,la_,lz_,ls_]
  refine tk_ 23 oPl74 (v:=?_) ?_ ?_
  rotate_left
  ·intro w hSw;(try dsimp only at hSw);go_simp;(try with_reducible rfl)
  try simp only [Act.put,la_,lz_,ls_]
  refine tk_ 24 oPl75 (v:=?_) ?_ ?_
  rotate_left
  ·intro w hSw;(try dsimp only at hSw);go_simp;(try with_reducible rfl)
  try simp only [Act.put,la_,lz_,ls_]
  refine tk_ 25 oPl76 (v:=?_) ?_ ?_
  rotate_left
  ·intro w hSw;(try dsimp only at hSw);go_simp;(try with_reducible rfl)
  try simp only [Act.put,la_,lz_,ls_]
  refine tk_ 26 oPl77 (v:=?_) ?_ ?_
  rotate_left
  ·intro w hSw;(try dsimp only at hSw);go_simp;(try with_reducible rfl)
  try simp only [Act.put,la_,lz_,ls_]
  refine tk_ 27 oPl78 (v:=?_) ?_ ?_
  rotate_left
  ·intro w hSw;(try dsimp only at hSw);go_simp;(try with_reducible rfl)
  try simp only [Act.put,la_,lz_,ls_]
  refine rd_ [28] ?_
  refine AllReadyH.cons (o:=oPl79) rfl (fun K hK=>?_) AllReadyH.nil
  go_simp
  with_reducible refine (rtiles29_any W H T _ HOK.out).mono ?_
  rintro e w3 ⟨rfl,hb3⟩
  have Q3:=hd_ (bt_ bd_ hb3)
  clear hb3
  refine hK.out _ _ ?_ (fun hh=>?_)
  ·(first|exact HK.out _ br_|exact HK.out _ bd_|exact HK.out _ Q3.out|exact HK.out _ (bt_ Q3.out (bn_ _ _))|exact HK.out _ Q4.out|exact HK.out _ Q5.out|exact HK.out _ Q6.out|exact HK.out _ Q7.out)
  clear hK K
  try simp only [Act.put,la_,lz_,ls_]
  refine rd_ [29] ?_
  refine AllReadyH.cons (o:=oPl80) rfl (fun K hK=>?_) AllReadyH.nil
  go_simp
  with_reducible refine (HA1.out _ ?_).mono ?_
  ·exact bt_ Q1.out Q3.out
  rintro e w4 ⟨rfl,hb4⟩
  have Q4:=hd_ (bt_ Q3.out hb4)
  clear hb4
  refine hK.out _ _ ?_ (fun hh=>?_)
  ·(first|exact HK.out _ br_|exact HK.out _ bd_|exact HK.out _ Q3.out|exact HK.out _ (bt_ Q3.out (bn_ _ _))|exact HK.out _ Q4.out|exact HK.out _ Q5.out|exact HK.out _ Q6.out|exact HK.out _ Q7.out)
  clear hK K
  try simp only [Act.put,la_,lz_,ls_]
  refine tk_ 30 oPl81 (v:=?_) ?_ ?_
  rotate_left
  ·intro w hSw;(try dsimp only at hSw);go_simp;(try with_reducible rfl)
  try simp only [Act.put,la_,lz_,ls_]
  refine tk_ 31 oPl82 (v:=?_) ?_ ?_
  rotate_left
  ·intro w hSw;(try dsimp only at hSw);go_simp;(try with_reducible rfl)
  try simp only [Act.put,la_,lz_,ls_]
  refine tk_ 32 oPl83 (v:=?_) ?_ ?_
  rotate_left
  ·intro w hSw;(try dsimp only at hSw);go_simp;(try with_reducible rfl)
  try simp only [Act.put,la_,lz_,ls_]
  refine tk_ 33 oPl84 (v:=?_) ?_ ?_
  rotate_left
  ·intro w hSw;(try dsimp only at hSw);go_simp;(try with_reducible rfl)
  try simp only [Act.put,la_,lz_,ls_]
  refine tk_ 35 oPl86 (v:=?_) ?_ ?_
  rotate_left
  ·intro w hSw;(try dsimp only at hSw);go_simp;(try with_reducible rfl)
  try simp only [Act.put,la_,lz_,ls_]
  refine rd_ [34] ?_
  refine AllReadyH.cons (o:=oPl85) rfl (fun K hK=>?_) AllReadyH.nil
  go_simp
  with_reducible refine (HBO.out _ ?_).mono ?_
  ·first|exact bt_ Q1.out Q6.out|exact bt_ Q1.out Q4.out
  rintro e w5 ⟨A5,c5,rfl,hb5,ho5⟩
  have V5:=hd_ ho5
  have Q5:=hd_ (bt_ (by first|exact Q6.out|exact Q4.out) hb5)
  clear hb5 ho5
  refine hK.out _ _ ?_ (fun hh=>?_)
  ·(first|exact HK.out _ br_|exact HK.out _ bd_|exact HK.out _ Q3.out|exact HK.out _ (bt_ Q3.out (bn_ _ _))|exact HK.out _ Q4.out|exact HK.out _ Q5.out|exact HK.out _ Q6.out|exact HK.out _ Q7.out)
  clear hK K
  try simp only [Act.put,la_,lz_,ls_]
  refine rd_ [36] ?_
  refine AllReadyH.cons (o:=oPl87) rfl (fun K hK=>?_) AllReadyH.nil
  go_simp
  with_reducible refine (rpads29_any W H T _ HOK.out).mono ?_
  rintro e w6 ⟨rfl,hb6⟩
  have Q6:=hd_ (bt_ (by first|exact Q5.out|exact Q4.out) hb6)
  have V6:=hd_ hb6
  clear hb6
  refine hK.out _ _ ?_ (fun hh=>?_)
  ·(first|exact HK.out _ br_|exact HK.out _ bd_|exact HK.out _ Q3.out|exact HK.out _ (bt_ Q3.out (bn_ _ _))|exact HK.out _ Q4.out|exact HK.out _ Q5.out|exact HK.out _ Q6.out|exact HK.out _ Q7.out)
  clear hK K
  try simp only [Act.put,la_,lz_,ls_]
  refine rd_ [37] ?_
  refine AllReadyH.cons (o:=oPl88) rfl (fun K hK=>?_) AllReadyH.nil
  go_simp
  with_reducible refine (HA2.out _ _ _ ?_).mono ?_
  ·first|exact V5.out|exact V5.out.later V6.out
  rintro e w7 ⟨rfl,hb7⟩
  have Q7:=hd_ (bt_ (by first|exact Q6.out|exact Q5.out) hb7)
  clear hb7
  refine hK.out _ _ ?_ (fun hh=>?_)
  ·(first|exact HK.out _ br_|exact HK.out _ bd_|exact HK.out _ Q3.out|exact HK.out _ (bt_ Q3.out (bn_ _ _))|exact HK.out _ Q4.out|exact HK.out _ Q5.out|exact HK.out _ Q6.out|exact HK.out _ Q7.out)
  clear hK K
  try simp only [Act.put,la_,lz_,ls_]
  refine tk_ 38 oPl89 (v:=?_) ?_ ?_
  rotate_left
  ·intro w hSw;(try dsimp only at hSw);go_simp;(try with_reducible rfl)
  try simp only [Act.put,la_,lz_,ls_]
  refine tk_ 39 oPl90 (v:=?_) ?_ ?_
  rotate_left
  ·intro w hSw;(try dsimp only at hSw);go_simp;(try with_reducible rfl)
  try simp only [Act.put,la_,lz_,ls_]
  refine wpAnyH_done (by kernel_rfl) ?_ _
  cases v2 with
  | false =>
   have HN:=hd_ (HP1.out (fun h=>by have:=(HL.out.1 h).2.2.2.2;cases this))
   go_wp2_with fail
   go_ret
   exact ⟨1,(by first|rfl|trivial),HN.out,bt_ Q1.out Q7.out⟩
  | true =>
   have HN:=hd_ (HP0.out (HL.out.2 ⟨E1.out,E2.out,E3.out,by trivial,by trivial⟩))
   go_wp2_with fail
   go_ret
   exact ⟨0,(by first|rfl|trivial),HN.out,bt_ Q1.out Q7.out⟩
end Go.Proofs.YtmkiphadkmodnaaGreat
