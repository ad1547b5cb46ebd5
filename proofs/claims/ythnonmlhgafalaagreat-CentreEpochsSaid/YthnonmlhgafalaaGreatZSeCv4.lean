import Derived.Test.YthnonmlhgafalaaGreatZSeCv3
import Derived.Test.YthnonmlhgafalaaGreatZSeGr
set_option linter.unusedVariables false
set_option linter.unusedSimpArgs false
set_option maxRecDepth 100000
namespace Go.AM.Seat
open Go Go.AM Go.Proofs
def Γ439:Orc:=orc [(N446,s446)]
abbrev live439:List (Nat×Dir):=[(0,.keep),(3,.keep),(9,.keep),(10,.keep),(11,.keep)]
def vs439 (xss:List (List Int)) (s:Int) (yss:List (List Int)) (n i:Int):List AV:=[.one (.sl false (.sl U) none xss),.one (.int .i64 s),.one (.sl false (.sl U) none yss),.one (.int .i64 n),.one (.int .i64 i)]
abbrev live439b:List (Nat×Dir):=[(6,.arr U),(25,.keep),(26,.keep),(27,.keep)]
def vs439b (out:List Int) (yss:List (List Int)) (n i:Int):List AV:=[.arr true U out,.one (.sl false (.sl U) none yss),.one (.int .i64 n),.one (.int .i64 i)]
abbrev lay439:List (Nat×List (Nat×Dir)):=[(0,live439),(2,live439b)]
noncomputable abbrev loopB439:Nat×Code:=(loopsOf 0 (body F439)).getD 1 (0,.skip)
def two6 (yss:List (List Int)) (R:List Int→List Int→Option AV):Option AV:=match yss with|[xs,ys]=>bif decide (xs.length+ys.length≤1000000)then R xs ys else none|_=>none
def Λ439:Lam AV:=fun cur vs K=>
 match cur,vs with
 |0,[.one (.sl false (.sl (.int .u64)) none xss),.one (.int .i64 0),.one (.sl false (.sl (.int .u64)) none yss),.one (.int .i64 2),.one (.int .i64 0)]=>
  two6 yss fun xs ys=>K (.exit 0) (vs439 xss ((xs.length+ys.length:Nat):Int) [xs,ys] 2 2)
 |2,[.arr true (.int .u64) [],.one (.sl false (.sl (.int .u64)) none yss),.one (.int .i64 2),.one (.int .i64 0)]=>
  two6 yss fun xs ys=>K (.exit 2) (vs439b (xs++ys) [xs,ys] 2 2)
 |_,_=>none
theorem two6_some {yss:List (List Int)} {R:List Int→List Int→Option AV} {out:AV} (h:two6 yss R=some out): ∃xs ys,yss=[xs,ys]∧xs.length+ys.length≤1000000∧R xs ys=some out:=by
 unfold two6 at h
 split at h
 ·rename_i xs ys
  cases hc:decide (xs.length+ys.length≤1000000)with
  |false=>rw[hc]at h;cases h
  |true=>rw[hc]at h;exact⟨xs,ys,rfl,of_decide_eq_true hc,h⟩
 ·cases h
theorem go439a (xss:List (List Int)) (xs ys:List Int) (Λ:Lam AV) (K:AE→List AV→Option AV):loopN (aexec tb Γ439 Λ ⟨36,0,lay439⟩ (loop1 F439).2 0) 36 0 live439 K 3 (vs439 xss 0 [xs,ys] 2 0)=
 bif decide (IntKind.i64.wrap (0+xs.length)<0)then none else bif decide (IntKind.i64.wrap (IntKind.i64.wrap (0+xs.length)+ys.length)<0)then none else
  K (.exit 0) (vs439 xss (IntKind.i64.wrap (IntKind.i64.wrap (0+xs.length)+ys.length)) [xs,ys] 2 2):=by kernel_rfl
theorem go439b (xs ys:List Int) (Λ:Lam AV) (K:AE→List AV→Option AV):loopN (aexec tb Γ439 Λ ⟨36,0,lay439⟩ loopB439.2 2) 36 0 live439b K 3 (vs439b [] [xs,ys] 2 0)=
 bif decide ((([]:List Int).length+xs.length)*8≤140737488355328)then bif decide ((([]++xs:List Int).length+ys.length)*8≤140737488355328)then
  K (.exit 2) (vs439b ([]++xs++ys) [xs,ys] 2 2)else none else none:=by kernel_rfl
theorem loop439a:LoopP tb Γ439 Λ439 ⟨36,0,lay439⟩ (loop1 F439):=by
 intro vs K out h
 have hcur:(loop1 F439).1=0:=by kernel_rfl
 rw[hcur]at h⊢
 unfold Λ439 at h
 split at h
 ·rename_i xss yss _
  obtain⟨xs,ys,rfl,h1,h2⟩:=two6_some h
  refine⟨3,(go439a xss xs ys Λ439 K).trans ?_⟩
  rw[wrap64 (n:=0+(xs.length:Int)) (by omega) (by omega),wrap64 (n:=0+(xs.length:Int)+(ys.length:Int)) (by omega) (by omega),decide_eq_false (by omega),decide_eq_false (by omega),
   show(0+(xs.length:Int)+(ys.length:Int))=((xs.length+ys.length:Nat):Int) by omega]
  exact h2
 ·rename_i e;cases e
 ·cases h
theorem loop439b:LoopP tb Γ439 Λ439 ⟨36,0,lay439⟩ loopB439:=by
 intro vs K out h
 have hcur:loopB439.1=2:=by kernel_rfl
 rw[hcur]at h⊢
 unfold Λ439 at h
 split at h
 ·rename_i e;cases e
 ·rename_i yss _
  obtain⟨xs,ys,rfl,h1,h2⟩:=two6_some h
  refine⟨3,(go439b xs ys Λ439 K).trans ?_⟩
  rw[decide_eq_true (by simp only[List.length_nil];omega),decide_eq_true (by simp only[List.nil_append];omega)]
  exact h2
 ·cases h
theorem r439 (xs ys:List Int):run Γ439 Λ439 lay439 F439 [.one (.sl false (.sl U) none [xs,ys])] [.arr U]=
 bif decide (xs.length+ys.length≤1000000)then bif decide (0≤((xs.length+ys.length:Nat):Int))&&decide (((xs.length+ys.length:Nat):Int)≤1000000)then
  bif decide (xs.length+ys.length≤1000000)then some (.arr true U (xs++ys))else none else none else none:=by kernel_rfl
def s439:Sp:= .fn [.v (.sl (.sl U))] fun x=>match x with|[xs,ys]=>(decide (xs.length+ys.length≤1000000),.arr true U (xs++ys))|_=>(false,AV.junk)
theorem g439:GoodS Tryz.prog N439 s439:=by
 refine good (.cons g446 (.nil _)) H439 rfl (by kernel_rfl) Λ439 lay439 (twoLoops (p0:=loop1 F439) (p1:=loopB439) (by kernel_rfl) loop439a loop439b) [.v (.sl (.sl U))] (by decide) [.arr U] _ fun x r hw h=> ?_
 split at h
 ·rename_i xs ys
  simp only[Prod.mk.injEq,decide_eq_true_eq]at h
  obtain⟨h1,rfl⟩:=h
  refine(r439 xs ys).trans ?_
  rw[decide_eq_true h1,decide_eq_true (by omega),decide_eq_true (by omega)];rfl
 ·cases h
end Go.AM.Seat
