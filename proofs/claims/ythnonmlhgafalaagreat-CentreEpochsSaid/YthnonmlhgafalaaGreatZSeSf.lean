import Derived.Shelf.SlSortCmp.NoneTotal
import Derived.Test.YthnonmlhgafalaaGreatZAmSortQ
import Derived.Test.YthnonmlhgafalaaGreatZSeTab
set_option linter.unusedVariables false
set_option maxRecDepth 100000
namespace Go.AM.Seat
open Go Go.AM Go.Proofs Go.Shelf
def ρSf:Go.Shelf.Ren:=
{
 f:=fun x=>
  match x with
  |6=>154
  |15=>227
  |14=>226
  |28=>273
  |29=>262
  |20=>265
  |21=>266
  |22=>267
  |23=>268
  |24=>269
  |25=>270
  |26=>271
  |27=>272
  |46=>296
  |47=>297
  |48=>298
  |49=>299
  |50=>300
  |57=>310
  |n=>n,
 t:=fun x=>
  match x with
  |22=>55
  |24=>79
  |25=>178
  |3=>3
  |39=>161
  |0=>0
  |53=>227
  |55=>22
  |4=>4
  |46=>266
  |45=>265
  |50=>141
  |5=>5
  |9=>9
  |66=>284
  |70=>288
  |76=>296
  |77=>297
  |n=>n,
 g:=fun n=>n}
theorem laySf:SlLaysF0.n6 Tryz.prog ρSf:=
{ mixed:=Eq.refl true,
  f6:=
   Exists.intro "slices.SortFunc[[]medlar/api.Subset,medlar/api.Subset]"
    ⟨of_decide_eq_true (id (Eq.refl true)),
     Eq.trans Tryz.func154
       (congrArg some
        (Eq.refl (α:=Func)
         { name:= "slices.SortFunc[[]medlar/api.Subset,medlar/api.Subset]",
           origin:=(SlBodyF.n6 ρSf).origin,targs:=(SlBodyF.n6 ρSf).targs,
           params:=(SlBodyF.n6 ρSf).params,resultTypes:=(SlBodyF.n6 ρSf).resultTypes,
           nfree:=(SlBodyF.n6 ρSf).nfree,ntmps:=(SlBodyF.n6 ρSf).ntmps,
           results:=(SlBodyF.n6 ρSf).results,body:=(SlBodyF.n6 ρSf).body,
           norace:=(SlBodyF.n6 ρSf).norace,ours:=(SlBodyF.n6 ρSf).ours,
           file:=(SlBodyF.n6 ρSf).file,endLine:=(SlBodyF.n6 ρSf).endLine,
           litNo:=(SlBodyF.n6 ρSf).litNo,met:=(SlBodyF.n6 ρSf).met,
           tmpNames:=(SlBodyF.n6 ρSf).tmpNames}))⟩,
  f14:=
   Exists.intro "slices.pdqsortCmpFunc[medlar/api.Subset]"
    ⟨of_decide_eq_true (id (Eq.refl true)),
     Eq.trans Tryz.func226
       (congrArg some
        (Eq.refl (α:=Func)
         { name:= "slices.pdqsortCmpFunc[medlar/api.Subset]",origin:=(SlBodyF.n14 ρSf).origin,
           targs:=(SlBodyF.n14 ρSf).targs,params:=(SlBodyF.n14 ρSf).params,
           resultTypes:=(SlBodyF.n14 ρSf).resultTypes,nfree:=(SlBodyF.n14 ρSf).nfree,
           ntmps:=(SlBodyF.n14 ρSf).ntmps,results:=(SlBodyF.n14 ρSf).results,
           body:=(SlBodyF.n14 ρSf).body,norace:=(SlBodyF.n14 ρSf).norace,
           ours:=(SlBodyF.n14 ρSf).ours,file:=(SlBodyF.n14 ρSf).file,
           endLine:=(SlBodyF.n14 ρSf).endLine,litNo:=(SlBodyF.n14 ρSf).litNo,
           met:=(SlBodyF.n14 ρSf).met,tmpNames:=(SlBodyF.n14 ρSf).tmpNames}))⟩,
  f15:=Eq.trans Tryz.func227 (congrArg some (Eq.refl (SlBodyF.n15 ρSf))),
  f20:=
   Exists.intro "slices.insertionSortCmpFunc[medlar/api.Subset]"
    ⟨of_decide_eq_true (id (Eq.refl true)),
     Eq.trans Tryz.func265
       (congrArg some
        (Eq.refl (α:=Func)
         { name:= "slices.insertionSortCmpFunc[medlar/api.Subset]",origin:=(SlBodyF.n20 ρSf).origin,
           targs:=(SlBodyF.n20 ρSf).targs,params:=(SlBodyF.n20 ρSf).params,
           resultTypes:=(SlBodyF.n20 ρSf).resultTypes,nfree:=(SlBodyF.n20 ρSf).nfree,
           ntmps:=(SlBodyF.n20 ρSf).ntmps,results:=(SlBodyF.n20 ρSf).results,
           body:=(SlBodyF.n20 ρSf).body,norace:=(SlBodyF.n20 ρSf).norace,
           ours:=(SlBodyF.n20 ρSf).ours,file:=(SlBodyF.n20 ρSf).file,
           endLine:=(SlBodyF.n20 ρSf).endLine,litNo:=(SlBodyF.n20 ρSf).litNo,
           met:=(SlBodyF.n20 ρSf).met,tmpNames:=(SlBodyF.n20 ρSf).tmpNames}))⟩,
  f21:=
   Exists.intro "slices.heapSortCmpFunc[medlar/api.Subset]"
    ⟨of_decide_eq_true (id (Eq.refl true)),
     Eq.trans Tryz.func266
       (congrArg some
        (Eq.refl (α:=Func)
         { name:= "slices.heapSortCmpFunc[medlar/api.Subset]",origin:=(SlBodyF.n21 ρSf).origin,
           targs:=(SlBodyF.n21 ρSf).targs,params:=(SlBodyF.n21 ρSf).params,
           resultTypes:=(SlBodyF.n21 ρSf).resultTypes,nfree:=(SlBodyF.n21 ρSf).nfree,
           ntmps:=(SlBodyF.n21 ρSf).ntmps,results:=(SlBodyF.n21 ρSf).results,
           body:=(SlBodyF.n21 ρSf).body,norace:=(SlBodyF.n21 ρSf).norace,
           ours:=(SlBodyF.n21 ρSf).ours,file:=(SlBodyF.n21 ρSf).file,
           endLine:=(SlBodyF.n21 ρSf).endLine,litNo:=(SlBodyF.n21 ρSf).litNo,
           met:=(SlBodyF.n21 ρSf).met,tmpNames:=(SlBodyF.n21 ρSf).tmpNames}))⟩,
  f22:=
   Exists.intro "slices.breakPatternsCmpFunc[medlar/api.Subset]"
    ⟨of_decide_eq_true (id (Eq.refl true)),
     Eq.trans Tryz.func267
       (congrArg some
        (Eq.refl (α:=Func)
         { name:= "slices.breakPatternsCmpFunc[medlar/api.Subset]",origin:=(SlBodyF.n22 ρSf).origin,
           targs:=(SlBodyF.n22 ρSf).targs,params:=(SlBodyF.n22 ρSf).params,
           resultTypes:=(SlBodyF.n22 ρSf).resultTypes,nfree:=(SlBodyF.n22 ρSf).nfree,
           ntmps:=(SlBodyF.n22 ρSf).ntmps,results:=(SlBodyF.n22 ρSf).results,
           body:=(SlBodyF.n22 ρSf).body,norace:=(SlBodyF.n22 ρSf).norace,
           ours:=(SlBodyF.n22 ρSf).ours,file:=(SlBodyF.n22 ρSf).file,
           endLine:=(SlBodyF.n22 ρSf).endLine,litNo:=(SlBodyF.n22 ρSf).litNo,
           met:=(SlBodyF.n22 ρSf).met,tmpNames:=(SlBodyF.n22 ρSf).tmpNames}))⟩,
  f23:=
   Exists.intro "slices.choosePivotCmpFunc[medlar/api.Subset]"
    ⟨of_decide_eq_true (id (Eq.refl true)),
     Eq.trans Tryz.func268
       (congrArg some
        (Eq.refl (α:=Func)
         { name:= "slices.choosePivotCmpFunc[medlar/api.Subset]",origin:=(SlBodyF.n23 ρSf).origin,
           targs:=(SlBodyF.n23 ρSf).targs,params:=(SlBodyF.n23 ρSf).params,
           resultTypes:=(SlBodyF.n23 ρSf).resultTypes,nfree:=(SlBodyF.n23 ρSf).nfree,
           ntmps:=(SlBodyF.n23 ρSf).ntmps,results:=(SlBodyF.n23 ρSf).results,
           body:=(SlBodyF.n23 ρSf).body,norace:=(SlBodyF.n23 ρSf).norace,
           ours:=(SlBodyF.n23 ρSf).ours,file:=(SlBodyF.n23 ρSf).file,
           endLine:=(SlBodyF.n23 ρSf).endLine,litNo:=(SlBodyF.n23 ρSf).litNo,
           met:=(SlBodyF.n23 ρSf).met,tmpNames:=(SlBodyF.n23 ρSf).tmpNames}))⟩,
  f24:=
   Exists.intro "slices.reverseRangeCmpFunc[medlar/api.Subset]"
    ⟨of_decide_eq_true (id (Eq.refl true)),
     Eq.trans Tryz.func269
       (congrArg some
        (Eq.refl (α:=Func)
         { name:= "slices.reverseRangeCmpFunc[medlar/api.Subset]",origin:=(SlBodyF.n24 ρSf).origin,
           targs:=(SlBodyF.n24 ρSf).targs,params:=(SlBodyF.n24 ρSf).params,
           resultTypes:=(SlBodyF.n24 ρSf).resultTypes,nfree:=(SlBodyF.n24 ρSf).nfree,
           ntmps:=(SlBodyF.n24 ρSf).ntmps,results:=(SlBodyF.n24 ρSf).results,
           body:=(SlBodyF.n24 ρSf).body,norace:=(SlBodyF.n24 ρSf).norace,
           ours:=(SlBodyF.n24 ρSf).ours,file:=(SlBodyF.n24 ρSf).file,
           endLine:=(SlBodyF.n24 ρSf).endLine,litNo:=(SlBodyF.n24 ρSf).litNo,
           met:=(SlBodyF.n24 ρSf).met,tmpNames:=(SlBodyF.n24 ρSf).tmpNames}))⟩,
  f25:=
   Exists.intro "slices.partialInsertionSortCmpFunc[medlar/api.Subset]"
    ⟨of_decide_eq_true (id (Eq.refl true)),
     Eq.trans Tryz.func270
       (congrArg some
        (Eq.refl (α:=Func)
         { name:= "slices.partialInsertionSortCmpFunc[medlar/api.Subset]",
           origin:=(SlBodyF.n25 ρSf).origin,targs:=(SlBodyF.n25 ρSf).targs,
           params:=(SlBodyF.n25 ρSf).params,resultTypes:=(SlBodyF.n25 ρSf).resultTypes,
           nfree:=(SlBodyF.n25 ρSf).nfree,ntmps:=(SlBodyF.n25 ρSf).ntmps,
           results:=(SlBodyF.n25 ρSf).results,body:=(SlBodyF.n25 ρSf).body,
           norace:=(SlBodyF.n25 ρSf).norace,ours:=(SlBodyF.n25 ρSf).ours,
           file:=(SlBodyF.n25 ρSf).file,endLine:=(SlBodyF.n25 ρSf).endLine,
           litNo:=(SlBodyF.n25 ρSf).litNo,met:=(SlBodyF.n25 ρSf).met,
           tmpNames:=(SlBodyF.n25 ρSf).tmpNames}))⟩,
  f26:=
   Exists.intro "slices.partitionEqualCmpFunc[medlar/api.Subset]"
    ⟨of_decide_eq_true (id (Eq.refl true)),
     Eq.trans Tryz.func271
       (congrArg some
        (Eq.refl (α:=Func)
         { name:= "slices.partitionEqualCmpFunc[medlar/api.Subset]",
           origin:=(SlBodyF.n26 ρSf).origin,targs:=(SlBodyF.n26 ρSf).targs,
           params:=(SlBodyF.n26 ρSf).params,resultTypes:=(SlBodyF.n26 ρSf).resultTypes,
           nfree:=(SlBodyF.n26 ρSf).nfree,ntmps:=(SlBodyF.n26 ρSf).ntmps,
           results:=(SlBodyF.n26 ρSf).results,body:=(SlBodyF.n26 ρSf).body,
           norace:=(SlBodyF.n26 ρSf).norace,ours:=(SlBodyF.n26 ρSf).ours,
           file:=(SlBodyF.n26 ρSf).file,endLine:=(SlBodyF.n26 ρSf).endLine,
           litNo:=(SlBodyF.n26 ρSf).litNo,met:=(SlBodyF.n26 ρSf).met,
           tmpNames:=(SlBodyF.n26 ρSf).tmpNames}))⟩,
  f27:=
   Exists.intro "slices.partitionCmpFunc[medlar/api.Subset]"
    ⟨of_decide_eq_true (id (Eq.refl true)),
     Eq.trans Tryz.func272
       (congrArg some
        (Eq.refl (α:=Func)
         { name:= "slices.partitionCmpFunc[medlar/api.Subset]",origin:=(SlBodyF.n27 ρSf).origin,
           targs:=(SlBodyF.n27 ρSf).targs,params:=(SlBodyF.n27 ρSf).params,
           resultTypes:=(SlBodyF.n27 ρSf).resultTypes,nfree:=(SlBodyF.n27 ρSf).nfree,
           ntmps:=(SlBodyF.n27 ρSf).ntmps,results:=(SlBodyF.n27 ρSf).results,
           body:=(SlBodyF.n27 ρSf).body,norace:=(SlBodyF.n27 ρSf).norace,
           ours:=(SlBodyF.n27 ρSf).ours,file:=(SlBodyF.n27 ρSf).file,
           endLine:=(SlBodyF.n27 ρSf).endLine,litNo:=(SlBodyF.n27 ρSf).litNo,
           met:=(SlBodyF.n27 ρSf).met,tmpNames:=(SlBodyF.n27 ρSf).tmpNames}))⟩,
  f28:=Eq.trans Tryz.func273 (congrArg some (Eq.refl (SlBodyF.n28 ρSf))),
  f29:=Eq.trans Tryz.func262 (congrArg some (Eq.refl (SlBodyF.n29 ρSf))),
  f46:=
   Exists.intro "slices.siftDownCmpFunc[medlar/api.Subset]"
    ⟨of_decide_eq_true (id (Eq.refl true)),
     Eq.trans Tryz.func296
       (congrArg some
        (Eq.refl (α:=Func)
         { name:= "slices.siftDownCmpFunc[medlar/api.Subset]",origin:=(SlBodyF.n46 ρSf).origin,
           targs:=(SlBodyF.n46 ρSf).targs,params:=(SlBodyF.n46 ρSf).params,
           resultTypes:=(SlBodyF.n46 ρSf).resultTypes,nfree:=(SlBodyF.n46 ρSf).nfree,
           ntmps:=(SlBodyF.n46 ρSf).ntmps,results:=(SlBodyF.n46 ρSf).results,
           body:=(SlBodyF.n46 ρSf).body,norace:=(SlBodyF.n46 ρSf).norace,
           ours:=(SlBodyF.n46 ρSf).ours,file:=(SlBodyF.n46 ρSf).file,
           endLine:=(SlBodyF.n46 ρSf).endLine,litNo:=(SlBodyF.n46 ρSf).litNo,
           met:=(SlBodyF.n46 ρSf).met,tmpNames:=(SlBodyF.n46 ρSf).tmpNames}))⟩,
  f47:=Eq.trans Tryz.func297 (congrArg some (Eq.refl (SlBodyF.n47 ρSf))),
  f48:=Eq.trans Tryz.func298 (congrArg some (Eq.refl (SlBodyF.n48 ρSf))),
  f49:=
   Exists.intro "slices.medianAdjacentCmpFunc[medlar/api.Subset]"
    ⟨of_decide_eq_true (id (Eq.refl true)),
     Eq.trans Tryz.func299
       (congrArg some
        (Eq.refl (α:=Func)
         { name:= "slices.medianAdjacentCmpFunc[medlar/api.Subset]",
           origin:=(SlBodyF.n49 ρSf).origin,targs:=(SlBodyF.n49 ρSf).targs,
           params:=(SlBodyF.n49 ρSf).params,resultTypes:=(SlBodyF.n49 ρSf).resultTypes,
           nfree:=(SlBodyF.n49 ρSf).nfree,ntmps:=(SlBodyF.n49 ρSf).ntmps,
           results:=(SlBodyF.n49 ρSf).results,body:=(SlBodyF.n49 ρSf).body,
           norace:=(SlBodyF.n49 ρSf).norace,ours:=(SlBodyF.n49 ρSf).ours,
           file:=(SlBodyF.n49 ρSf).file,endLine:=(SlBodyF.n49 ρSf).endLine,
           litNo:=(SlBodyF.n49 ρSf).litNo,met:=(SlBodyF.n49 ρSf).met,
           tmpNames:=(SlBodyF.n49 ρSf).tmpNames}))⟩,
  f50:=
   Exists.intro "slices.medianCmpFunc[medlar/api.Subset]"
    ⟨of_decide_eq_true (id (Eq.refl true)),
     Eq.trans Tryz.func300
       (congrArg some
        (Eq.refl (α:=Func)
         { name:= "slices.medianCmpFunc[medlar/api.Subset]",origin:=(SlBodyF.n50 ρSf).origin,
           targs:=(SlBodyF.n50 ρSf).targs,params:=(SlBodyF.n50 ρSf).params,
           resultTypes:=(SlBodyF.n50 ρSf).resultTypes,nfree:=(SlBodyF.n50 ρSf).nfree,
           ntmps:=(SlBodyF.n50 ρSf).ntmps,results:=(SlBodyF.n50 ρSf).results,
           body:=(SlBodyF.n50 ρSf).body,norace:=(SlBodyF.n50 ρSf).norace,
           ours:=(SlBodyF.n50 ρSf).ours,file:=(SlBodyF.n50 ρSf).file,
           endLine:=(SlBodyF.n50 ρSf).endLine,litNo:=(SlBodyF.n50 ρSf).litNo,
           met:=(SlBodyF.n50 ρSf).met,tmpNames:=(SlBodyF.n50 ρSf).tmpNames}))⟩,
  f57:=
   Exists.intro "slices.order2CmpFunc[medlar/api.Subset]"
    ⟨of_decide_eq_true (id (Eq.refl true)),
     Eq.trans Tryz.func310
       (congrArg some
        (Eq.refl (α:=Func)
         { name:= "slices.order2CmpFunc[medlar/api.Subset]",origin:=(SlBodyF.n57 ρSf).origin,
           targs:=(SlBodyF.n57 ρSf).targs,params:=(SlBodyF.n57 ρSf).params,
           resultTypes:=(SlBodyF.n57 ρSf).resultTypes,nfree:=(SlBodyF.n57 ρSf).nfree,
           ntmps:=(SlBodyF.n57 ρSf).ntmps,results:=(SlBodyF.n57 ρSf).results,
           body:=(SlBodyF.n57 ρSf).body,norace:=(SlBodyF.n57 ρSf).norace,
           ours:=(SlBodyF.n57 ρSf).ours,file:=(SlBodyF.n57 ρSf).file,
           endLine:=(SlBodyF.n57 ρSf).endLine,litNo:=(SlBodyF.n57 ρSf).litNo,
           met:=(SlBodyF.n57 ρSf).met,tmpNames:=(SlBodyF.n57 ρSf).tmpNames}))⟩,
  t0:=Tryz.underlying0,a0:=Tryz.isAgg0,z0:=Tryz.sizeOf0,v0:=Tryz.zeroValue0,t3:=Tryz.underlying3,
  a3:=Tryz.isAgg3,z3:=Tryz.sizeOf3,v3:=Tryz.zeroValue3,t4:=Tryz.underlying4,a4:=Tryz.isAgg4,
  z4:=Tryz.sizeOf4,v4:=Tryz.zeroValue4,t5:=Tryz.underlying5,a5:=Tryz.isAgg5,z5:=Tryz.sizeOf5,
  v5:=Tryz.zeroValue5,t9:=Tryz.underlying9,a9:=Tryz.isAgg9,z9:=Tryz.sizeOf9,v9:=Tryz.zeroValue9,
  t22:=Tryz.underlying55,a22:=Tryz.isAgg55,z22:=Tryz.sizeOf55,v22:=Tryz.zeroValue55,
  t25:=Tryz.underlying178,a25:=Tryz.isAgg178,z25:=Tryz.sizeOf178,v25:=Tryz.zeroValue178,
  t39:=Tryz.underlying161,a39:=Tryz.isAgg161,z39:=Tryz.sizeOf161,v39:=Tryz.zeroValue161,
  t45:=Tryz.underlying265,a45:=Tryz.isAgg265,z45:=Tryz.sizeOf265,v45:=Tryz.zeroValue265,
  t46:=Tryz.underlying266,a46:=Tryz.isAgg266,z46:=Tryz.sizeOf266,v46:=Tryz.zeroValue266,
  t50:=Tryz.underlying141,a50:=Tryz.isAgg141,z50:=Tryz.sizeOf141,v50:=Tryz.zeroValue141,
  t53:=Tryz.underlying227,a53:=Tryz.isAgg227,z53:=Tryz.sizeOf227,v53:=Tryz.zeroValue227,
  t55:=Tryz.underlying22,a55:=Tryz.isAgg22,z55:=Tryz.sizeOf22,v55:=Tryz.zeroValue22,
  t66:=Tryz.underlying284,a66:=Tryz.isAgg284,z66:=Tryz.sizeOf284,v66:=Tryz.zeroValue284,
  t70:=Tryz.underlying288,a70:=Tryz.isAgg288,z70:=Tryz.sizeOf288,v70:=Tryz.zeroValue288,
  t76:=Tryz.underlying296,a76:=Tryz.isAgg296,z76:=Tryz.sizeOf296,v76:=Tryz.zeroValue296,
  t77:=Tryz.underlying297,a77:=Tryz.isAgg297,z77:=Tryz.sizeOf297,v77:=Tryz.zeroValue297}
theorem aESf: ∀w:World,(isAgg (ρSf.t 24)).run Tryz.prog w= .ok true w:=Tryz.isAgg79
theorem zESf: ∀w:World,(Go.sizeOf (ρSf.t 24)).run Tryz.prog w= .ok 2 w:=Tryz.sizeOf79
end Go.AM.Seat
