import Derived.Test.YthnonmlhgafalaaGreatZM18
set_option linter.unusedVariables false
set_option linter.unusedSimpArgs false
set_option maxRecDepth 100000
namespace Go.AM.Seat
open Go Go.AM Go.Proofs
def Γ390:Orc:=orc [(N414,s414)]
theorem r390 (a:Int) (l:List Int) (n:Int):run Γ390 noL [] F390 [.one (.int .i64 a),.one (.sl false U none l),.one (.int .u64 n)] []=
 some (.tup [(false,[.bool (decide (((belowR a l n).1.length :Int)>0))]),(false,[.int .i64 (belowR a l n).2])]):=by kernel_rfl
def rbe (b:Bool) (e:Int):AV:= .tup [(false,[.bool b]),(false,[.int .i64 e])]
def s390:Sp:= .fn [.v I,.v (.sl U),.v U] fun x=>(true,rbe (decide (((belowR x.1 x.2.1 x.2.2).1.length :Int)>0)) (belowR x.1 x.2.1 x.2.2).2)
theorem g390:GoodS Tryz.prog N390 s390:=by
 refine good (.cons g414 (.nil _)) H390 rfl (by kernel_rfl) noL [] (noLoops (by kernel_rfl)) [.v I,.v (.sl U),.v U] (by decide) [] _ fun x r hw e=> ?_
 obtain⟨a,l,n⟩:=x
 cases e
 exact r390 a l n
def Γ415:Orc:=orc [(N414,s414),(N323,s323),(N361,s361)]
def endI (l:List Int):Int:=bsAu l (IntKind.i64.wrap ((l.length:Int)-1))
def downI (a:Int) (l:List Int) (n:Int):Int×Int:=
 bif (belowR a l n).2 != 0 then(0,(belowR a l n).2)else bif ((belowR a l n).1.length :Int)==0 then(0,4)else
 bif (bif (leafI a (bsAu (belowR a l n).1 0)).2 != 0 then true else(leafI a (endI (belowR a l n).1)).2 != 0)then(0,1)else meetI a (leafI a (bsAu (belowR a l n).1 0)).1 (leafI a (endI (belowR a l n).1)).1
theorem r415 (a:Int) (l:List Int) (n:Int):run Γ415 noL [] F415 [.one (.int .i64 a),.one (.sl false U none l),.one (.int .u64 n)] []=
 bif (belowR a l n).2 != 0 then some (ru2 0 (belowR a l n).2)else bif ((belowR a l n).1.length :Int)==0 then some (ru2 0 4)else
 bif inB 0 (belowR a l n).1.length then bif inB (IntKind.i64.wrap (((belowR a l n).1.length :Int)-1)) (belowR a l n).1.length then
  bif (bif (leafI a (bsAu (belowR a l n).1 0)).2 != 0 then true else(leafI a (endI (belowR a l n).1)).2 != 0)then some (ru2 0 1)else
   some (ru2 (meetI a (leafI a (bsAu (belowR a l n).1 0)).1 (leafI a (endI (belowR a l n).1)).1).1 (meetI a (leafI a (bsAu (belowR a l n).1 0)).1 (leafI a (endI (belowR a l n).1)).1).2)
  else none else none:=by kernel_rfl
def s415:Sp:= .fn [.v I,.v (.sl U),.v U] fun x=>(true,ru2 (downI x.1 x.2.1 x.2.2).1 (downI x.1 x.2.1 x.2.2).2)
theorem below_len {a:Int} {l:List Int} {n:Int}:(belowR a l n).1.length ≤1024:=by
 unfold belowR
 cases hc:belowB a l n with
 |true=>exact Nat.zero_le _
 |false=>
  have h2:lokB a l=true:=by
   unfold belowB at hc
   cases h:(leavesI a n).2 != 0 with
   |true=>rw[h]at hc;cases hc
   |false=>rw[h]at hc;exact lchk_ok hc
  exact Nat.le_trans (List.length_filter_le _ _) (lok_len h2).1
theorem g415:GoodS Tryz.prog N415 s415:=by
 refine good (.cons g414 (.cons g323 (.cons g361 (.nil _)))) H415 rfl (by kernel_rfl) noL [] (noLoops (by kernel_rfl)) [.v I,.v (.sl U),.v U] (by decide) [] _ fun x r hw e=> ?_
 obtain⟨a,l,n⟩:=x
 cases e
 refine(r415 a l n).trans ?_
 show _=some (ru2 (downI a l n).1 (downI a l n).2)
 unfold downI
 have hlen:=below_len (a:=a) (l:=l) (n:=n)
 generalize belowR a l n=b at*
 cases b.2 != 0 with
 |true=>rfl
 |false=>
  cases h0:((b.1.length :Int)==0)with
  |true=>rfl
  |false=>
   have h0: ¬(b.1.length :Int)=0:=by intro h;rw[h]at h0;cases h0
   have e1:inB 0 b.1.length =true:=inB_lt (j:=0) (by omega)
   have e2:inB (IntKind.i64.wrap ((b.1.length :Int)-1)) b.1.length =true:=by
    rw[wrap64 (n:=(b.1.length :Int)-1) (by omega) (by omega),show((b.1.length :Int)-1)=((b.1.length -1:Nat):Int) by omega]
    exact inB_lt (by omega)
   rw[e1,e2]
   cases (bif (leafI a (bsAu b.1 0)).2 != 0 then true else(leafI a (endI b.1)).2 != 0)<;>rfl
end Go.AM.Seat
