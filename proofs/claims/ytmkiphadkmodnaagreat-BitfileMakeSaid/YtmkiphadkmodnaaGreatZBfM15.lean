/- BfM, 15 -/
import Derived.Test.YtmkiphadkmodnaaGreatZBfM9
import Derived.Test.YtmkiphadkmodnaaGreatZBfM14
import Derived.Test.YtmkiphadkmodnaaGreatZBfM0
set_option linter.all false
set_option maxRecDepth 100000
set_option maxHeartbeats 8000000
namespace Go.Proofs.YtmkiphadkmodnaaGreat
open Go.RowKit
theorem own_downR {w:World} {base base':Nat} {e:TypeId} {size n:Nat} {v:Value} {xs:List Value} (h:w.ownsRow base e size v n xs) (hb:base'<=base):w.ownsRow base' e size v n xs:=by
 refine ⟨h.1,?_⟩
 rcases h.2 with h2|⟨g,cap,cur,hv,hg,hh⟩
 ·exact .inl h2
 ·exact .inr ⟨g,cap,cur,hv,Nat.le_trans hb hg,hh⟩
theorem byteB_snoc:∀ (l:List Bool) (b:Bool),byteB (l++[b])=byteB l+(if b then 2 ^ l.length else 0)
 | [],b=>by simp [byteB]
 | a::l,b=>by
  have ih:=byteB_snoc l b
  simp only [List.cons_append,byteB,ih,List.length_cons,Nat.pow_succ]
  split <;> split <;> omega
def bitsTo (l:List Bool) (q k:Nat):Nat:=byteB ((l.drop (8*q)).take k)
theorem bitsTo_next {l:List Bool} {q k:Nat} (h:8*q+k<l.length):bitsTo l q (k+1)=bitsTo l q k+(if l.getD (8*q+k) false then 2 ^ k else 0):=by
 unfold bitsTo
 have h1:k<(l.drop (8*q)).length:=by rw [List.length_drop];omega
 rw [List.take_succ_eq_append_getElem h1,byteB_snoc,List.length_take,Nat.min_eq_left (by omega),List.getElem_drop,List.getD_eq_getElem?_getD,List.getElem?_eq_getElem h]
 rfl
theorem bitsTo_lt (l:List Bool) (q k:Nat):bitsTo l q k<2 ^ k:=by
 unfold bitsTo
 have h1:=byteB_lt ((l.drop (8*q)).take k)
 have h2:((l.drop (8*q)).take k).length<=k:=by rw [List.length_take];omega
 exact Nat.lt_of_lt_of_le h1 (Nat.pow_le_pow_right (by omega) h2)
theorem bitsTo_full {l:List Bool} {q k:Nat} (h:k=8∨8*q+k=l.length∧k<=8):bitsTo l q k=byteB ((l.drop (8*q)).take 8):=by
 unfold bitsTo
 rcases h with rfl|⟨h1,h2⟩
 ·rfl
 ·rw [List.take_of_length_le (l:=l.drop (8*q)) (by rw [List.length_drop];omega),List.take_of_length_le (l:=l.drop (8*q)) (by rw [List.length_drop];omega)]
def seven (C:Cfg):List Nat:=[70,71,66,49,C.W.toNat,C.H.toNat,C.T.toNat]
theorem seven_cells {C:Cfg} (h:okA C.W C.H C.T):[Value.int .u8 70,.int .u8 71,.int .u8 66,.int .u8 49,.int .u8 C.W,.int .u8 C.H,.int .u8 C.T]=bys (seven C):=by
 unfold okA at h
 have e1:(C.W.toNat:Int)=C.W:=by omega
 have e2:(C.H.toNat:Int)=C.H:=by omega
 have e3:(C.T.toNat:Int)=C.T:=by omega
 simp only [bys,seven,List.map_cons,List.map_nil,e1,e2,e3]
 rfl
def tilesToR (l:List TL) (k:Nat):List Nat:=(l.take k).flatMap tileB
theorem tilesTo_next {l:List TL} {k:Nat} (h:k<l.length):tilesToR l (k+1)=tilesToR l k++two (l[k]!).1.toNat++[flag (l[k]!)]:=by
 unfold tilesToR
 rw [List.take_succ_eq_append_getElem h,List.flatMap_append,getElem!_pos l k h,List.append_assoc]
 simp [tileB]
def padsTo (l:List Int) (k:Nat):List Nat:=(l.take k).flatMap padB
theorem padsTo_next {l:List Int} {k:Nat} (h:k<l.length):padsTo l (k+1)=padsTo l k++two (l.getD k 0).toNat:=by
 unfold padsTo
 rw [List.take_succ_eq_append_getElem h,List.flatMap_append,List.getD_eq_getElem?_getD,List.getElem?_eq_getElem h]
 simp [padB]
theorem padsTo_len {l:List Int} {k:Nat} (h:k<=l.length):(padsTo l k).length=2*k:=by
 unfold padsTo
 rw [flat_len padB_len,List.length_take];omega
def Cfg.body (C:Cfg):List Nat:=bodyB C.W C.H C.T C.tiles C.on C.ins C.outs
def Cfg.bytes (C:Cfg):List Nat:=putB C.W C.H C.T C.tiles C.on C.ins C.outs
def BytesOut (C:Cfg) (w:World) (e:Ending) (w':World):Prop :=
 ∃ A c,e=.returned (.tuple #[.slice A C.bytes.length c,.int .i64 0])∧Below w.heap.size w w'∧w'.ownsRow w.heap.size 5 1 (.slice A C.bytes.length c) C.bytes.length (bys C.bytes)
theorem ok_pad {C:Cfg} (h:C.ok) {k:Nat} (hk:k<(C.ins++C.outs).length):0<=(C.ins++C.outs).getD k 0∧(C.ins++C.outs).getD k 0<=65535:=by
 have hh:=h.1
 unfold okA at hh
 have h1:=h.2.1.1 (C.ins++C.outs)[k] (List.getElem_mem hk)
 rw [List.getD_eq_getElem?_getD,List.getElem?_eq_getElem hk]
 simp only [Option.getD_some]
 omega
end Go.Proofs.YtmkiphadkmodnaaGreat
