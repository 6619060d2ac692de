/- BfM, 51 -/
import Derived.Deep.Slices
import Derived.Deep.Grids
import Derived.Deep.Fields
import Derived.Test.YtmkiphadkmodnaaGreatZBfM7
import Derived.Test.YtmkiphadkmodnaaGreatZBfM50
import Derived.Test.YtmkiphadkmodnaaGreatZBfM0
set_option linter.all false
set_option maxRecDepth 100000
set_option maxHeartbeats 8000000
namespace Go.Proofs.YtmkiphadkmodnaaGreat
open Go.ChangeShapes Go.WideShapes Go.ChangeAt Go.RowKit Go.Joins Go.Deep
end Go.Proofs.YtmkiphadkmodnaaGreat
namespace Go.Proofs.YtmkiphadkmodnaaGreat
open Go.ChangeShapes Go.WideShapes Go.ChangeAt Go.RowKit Go.Joins Go.Deep
structure Cfg.wf (C:Cfg):Prop where
 W:(Lit.int .i64 C.W).wf=true
 H:(Lit.int .i64 C.H).wf=true
 T:(Lit.int .i64 C.T).wf=true
 tiles:∀ t ∈ C.tiles,(Lit.int .i64 t.1).wf=true
 ins:∀ n ∈ C.ins,(Lit.int .i64 n).wf=true
 outs:∀ n ∈ C.outs,(Lit.int .i64 n).wf=true
end Go.Proofs.YtmkiphadkmodnaaGreat
namespace Go.Proofs.YtmkiphadkmodnaaGreat
open Go.RowKit
def few32 (C:Cfg):Prop:=C.W<=6∧C.H<=6∧C.T<=8∧C.tiles.length<=100∧C.on.length<=20000∧C.ins.length<=50∧C.outs.length<=50
instance (C:Cfg):Decidable (few32 C):=by unfold few32;infer_instance
end Go.Proofs.YtmkiphadkmodnaaGreat
