import Derived.Shelf.SlicesE.Delete
import Derived.Test.YthnonmlhgafalaaGreatZAmCmp
import Derived.Test.YthnonmlhgafalaaGreatZSeTab
set_option linter.unusedVariables false
set_option maxRecDepth 100000
namespace Go.AM.Seat
open Go Go.AM Go.Proofs Go.Shelf
def ρDl:Go.Shelf.Ren:=
{
 f:=fun x=>
  match x with
  |45=>276
  |n=>n,
 t:=fun x=>
  match x with
  |22=>29
  |23=>22
  |3=>3
  |4=>4
  |0=>0
  |n=>n,
 g:=fun n=>n}
theorem layDl:SlLaysE.n45 Tryz.prog ρDl:=
{ mixed:=Eq.refl true,
  f45:=
   Exists.intro "slices.Delete[[]uint64,uint64]"
    ⟨of_decide_eq_true (id (Eq.refl true)),
     Eq.trans Tryz.func276
       (congrArg some
        (Eq.refl (α:=Func)
         { name:= "slices.Delete[[]uint64,uint64]",origin:=(SlBodyN.n45 ρDl).origin,
           targs:=(SlBodyN.n45 ρDl).targs,params:=(SlBodyN.n45 ρDl).params,
           resultTypes:=(SlBodyN.n45 ρDl).resultTypes,nfree:=(SlBodyN.n45 ρDl).nfree,
           ntmps:=(SlBodyN.n45 ρDl).ntmps,results:=(SlBodyN.n45 ρDl).results,
           body:=(SlBodyN.n45 ρDl).body,norace:=(SlBodyN.n45 ρDl).norace,
           ours:=(SlBodyN.n45 ρDl).ours,file:=(SlBodyN.n45 ρDl).file,
           endLine:=(SlBodyN.n45 ρDl).endLine,litNo:=(SlBodyN.n45 ρDl).litNo,
           met:=(SlBodyN.n45 ρDl).met,tmpNames:=(SlBodyN.n45 ρDl).tmpNames}))⟩,
  t0:=Tryz.underlying0,a0:=Tryz.isAgg0,z0:=Tryz.sizeOf0,v0:=Tryz.zeroValue0,t3:=Tryz.underlying3,
  a3:=Tryz.isAgg3,z3:=Tryz.sizeOf3,v3:=Tryz.zeroValue3,t4:=Tryz.underlying4,a4:=Tryz.isAgg4,
  z4:=Tryz.sizeOf4,v4:=Tryz.zeroValue4,t22:=Tryz.underlying29,a22:=Tryz.isAgg29,z22:=Tryz.sizeOf29,
  v22:=Tryz.zeroValue29,a23:=Tryz.isAgg22,z23:=Tryz.sizeOf22}
theorem zerDl: ∀w:World,Sem.run Tryz.prog (zeroValue (ρDl.t 23)) w= .ok (.int .u64 0) w:=Tryz.zeroValue22
end Go.AM.Seat
