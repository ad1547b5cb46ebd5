import Derived.Shelf.SlicesE.Compact
import Derived.Test.YthnonmlhgafalaaGreatZAmCmp
import Derived.Test.YthnonmlhgafalaaGreatZSeTab
set_option linter.unusedVariables false
set_option maxRecDepth 100000
namespace Go.AM.Seat
open Go Go.AM Go.Proofs Go.Shelf
def ρCm:Go.Shelf.Ren:=
{
 f:=fun x=>
  match x with
  |43=>293
  |n=>n,
 t:=fun x=>
  match x with
  |22=>29
  |23=>22
  |3=>3
  |4=>4
  |0=>0
  |n=>n,
 g:=fun n=>n}
theorem layCm:SlLaysE.n43 Tryz.prog ρCm:=
{ mixed:=Eq.refl true,
  f43:=
   Exists.intro "slices.Compact[[]uint64,uint64]"
    ⟨of_decide_eq_true (id (Eq.refl true)),
     Eq.trans Tryz.func293
       (congrArg some
        (Eq.refl (α:=Func)
         { name:= "slices.Compact[[]uint64,uint64]",origin:=(SlBodyN.n43 ρCm).origin,
           targs:=(SlBodyN.n43 ρCm).targs,params:=(SlBodyN.n43 ρCm).params,
           resultTypes:=(SlBodyN.n43 ρCm).resultTypes,nfree:=(SlBodyN.n43 ρCm).nfree,
           ntmps:=(SlBodyN.n43 ρCm).ntmps,results:=(SlBodyN.n43 ρCm).results,
           body:=(SlBodyN.n43 ρCm).body,norace:=(SlBodyN.n43 ρCm).norace,
           ours:=(SlBodyN.n43 ρCm).ours,file:=(SlBodyN.n43 ρCm).file,
           endLine:=(SlBodyN.n43 ρCm).endLine,litNo:=(SlBodyN.n43 ρCm).litNo,
           met:=(SlBodyN.n43 ρCm).met,tmpNames:=(SlBodyN.n43 ρCm).tmpNames}))⟩,
  t0:=Tryz.underlying0,a0:=Tryz.isAgg0,z0:=Tryz.sizeOf0,v0:=Tryz.zeroValue0,t3:=Tryz.underlying3,
  a3:=Tryz.isAgg3,z3:=Tryz.sizeOf3,v3:=Tryz.zeroValue3,t4:=Tryz.underlying4,a4:=Tryz.isAgg4,
  z4:=Tryz.sizeOf4,v4:=Tryz.zeroValue4,t22:=Tryz.underlying29,a22:=Tryz.isAgg29,z22:=Tryz.sizeOf29,
  v22:=Tryz.zeroValue29,a23:=Tryz.isAgg22,z23:=Tryz.sizeOf22}
theorem zerCm: ∀w:World,Sem.run Tryz.prog (zeroValue (ρCm.t 23)) w= .ok (.int .u64 0) w:=Tryz.zeroValue22
end Go.AM.Seat
