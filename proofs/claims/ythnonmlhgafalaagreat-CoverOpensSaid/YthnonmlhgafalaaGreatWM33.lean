import Derived.Test.YthnonmlhgafalaaGreatWSm1
import Derived.Test.YthnonmlhgafalaaGreatWM31
set_option linter.unusedVariables false
set_option linter.unusedSimpArgs false
set_option maxRecDepth 100000
namespace Go.AM.Seat
open Go Go.AM Go.Proofs
def a90 (t:Term.D):Bool:=bif bif decide (t.2.1 ≥0)then decide (t.2.1 ≤1048576)else false then t.2.2 ==0 else false
def b90 (t:Term.D) (i:Int):Bool:=bif bif decide (t.2.1 ≥0)then decide (t.2.1 <i)else false then t.2.2 ==0 else false
def c90 (t:Term.D) (i:Int):Bool:=bif bif bif decide (t.2.1 ≥0)then decide (t.2.1 <i)else false then decide (t.2.2 ≥0)else false then decide (t.2.2 <i)else false
def mayR (t:Term.D) (i:Int):Bool:=bif t.1==1 then a90 t else bif t.1==2 then b90 t i else bif t.1==3 then b90 t i else bif t.1==4 then b90 t i else bif t.1==5 then c90 t i else false
def ob (b:Bool):Option AV:=some (.one (.bool b))
theorem r90 (t:Term.D) (i:Int):run (orc []) noL [] F90 (encA [.v Term,.v I] (t,i)) []=
 bif t.1==1 then ob (a90 t)else bif t.1==2 then ob (b90 t i)else bif t.1==3 then ob (b90 t i)else bif t.1==4 then ob (b90 t i)else bif t.1==5 then ob (c90 t i)else ob false:=by kernel_rfl
def s90:Sp:= .fn [.v Term,.v I] fun x=>(true,.one (.bool (mayR x.1 x.2)))
theorem g90:GoodS Tryz.prog N90 s90:=by
 refine good (.nil _) H90 rfl (by kernel_rfl) noL [] (noLoops (by kernel_rfl)) [.v Term,.v I] (by decide) [] _ fun x r _ h=> ?_
 obtain⟨t,i⟩:=x
 cases h
 rw[r90]
 show _=ob (mayR t i)
 unfold mayR
 cases (t.1==1)<;>cases (t.1==2)<;>cases (t.1==3)<;>cases (t.1==4)<;>cases (t.1==5)<;>rfl
def plGo (t:Term.D):List Term.D→Int→Int
 |[],_=> -1
 |x::xs,i=>bif eqD Term x t then i else plGo t xs (i+1)
abbrev live91:List (Nat×Dir):=[(3,.keep),(4,.keep),(7,.keep),(8,.keep),(9,.keep)]
def vs91 (l:List Term.D) (t:Term.D) (r n i:Int):List AV:=
 [.own [.int .i64 t.1,.int .i64 t.2.1,.int .i64 t.2.2],.one (.int .i64 r),.one (.sl false Term none l),.one (.int .i64 n),.one (.int .i64 i)]
def Λ91:Lam AV:=fun cur vs K=>
 match cur,vs with
 |0,[.own [.int .i64 a,.int .i64 b,.int .i64 c],.one (.int .i64 0),.one (.sl false (.pair (.int .i64) (.pair (.int .i64) (.int .i64))) none l),.one (.int .i64 n),.one (.int .i64 0)]=>
  bif decide (n=l.length)&&decide (n≤9223372036854775807)then
   bif decide (plGo (a,b,c) l 0<0)then K (.exit 0) (vs91 l (a,b,c) 0 n n)else K .ret (vs91 l (a,b,c) (plGo (a,b,c) l 0) n (plGo (a,b,c) l 0))
  else none
 |_,_=>none
theorem tAt_drop {l:List Term.D} {j:Nat} (h:j<l.length):l.drop j=tAt l j::l.drop (j+1):=by
 rw[List.drop_eq_getElem_cons h]
 simp [tAt,h]
theorem step91 (l:List Term.D) (t:Term.D) (r n i:Int) (K:AE→List AV→Option AV) (fuel:Nat):
 loopN (aexec tb (orc []) Λ91 ⟨19,0,[(0,live91)]⟩ (loop1 F91).2 0) 19 0 live91 K (fuel+1) (vs91 l t r n i)=
 bif decide (i<n)then
  bif inB i l.length then
   bif eqD Term (tAt l i) t then K .ret (vs91 l t i n i)
   else loopN (aexec tb (orc []) Λ91 ⟨19,0,[(0,live91)]⟩ (loop1 F91).2 0) 19 0 live91 K fuel (vs91 l t r n (IntKind.i64.wrap (i+1)))
  else none
 else K (.exit 0) (vs91 l t r n i):=by kernel_rfl
theorem plGo_ge (t:Term.D): ∀(xs:List Term.D) (i:Int),plGo t xs i= -1∨i≤plGo t xs i:=by
 intro xs
 induction xs with
 |nil=>intro i;exact .inl rfl
 |cons x xs ih=>
  intro i
  simp only[plGo]
  cases eqD Term x t with
  |true=>exact .inr (Int.le_refl i)
  |false=>rcases ih (i+1)with h|h
          ·exact .inl h
          ·exact .inr (by simp only[cond_false];omega)
theorem loop91:LoopP tb (orc []) Λ91 ⟨19,0,[(0,live91)]⟩ (loop1 F91):=by
 intro vs K out h
 have hcur:(loop1 F91).1=0:=by kernel_rfl
 rw[hcur]at h⊢
 unfold Λ91 at h
 split at h
 ·rename_i a b c l n _
  cases hc:(decide (n=l.length)&&decide (n≤9223372036854775807))with
  |false=>rw[hc]at h;cases h
  |true=>
   rw[hc]at h
   simp only[cond_true]at h
   simp only[Bool.and_eq_true,decide_eq_true_eq]at hc
   obtain⟨rfl,hmax⟩:=hc
   refine upLoop (α:=Unit) (n:=l.length) (F:=fun fuel _ i=>loopN (aexec tb (orc []) Λ91 ⟨19,0,[(0,live91)]⟩ (loop1 F91).2 0) 19 0 live91 K fuel (vs91 l (a,b,c) 0 l.length i))
    (G:=fun j _=>bif decide (plGo (a,b,c) (l.drop j) j<0)then K (.exit 0) (vs91 l (a,b,c) 0 l.length l.length)else K .ret (vs91 l (a,b,c) (plGo (a,b,c) (l.drop j) j) l.length (plGo (a,b,c) (l.drop j) j)))
    (fun fuel _=> ?_) (fun _ j hj=> ?_) l.length 0 () out (by omega) h
   ·simp only[step91,nlt_dec,cond_false,List.drop_length,plGo];rfl
   ·cases hx:eqD Term (tAt l j) (a,b,c)with
    |true=>
     right;intro fuel
     have h0:decide ((j:Int)<0)=false:=by simp
     simp only[step91,lt_dec hj,inB_lt hj,hx,cond_true,cond_false,tAt_drop hj,plGo,h0]
    |false=>
     left;refine⟨(),fun fuel=> ?_, ?_⟩
     ·simp only[step91,lt_dec hj,inB_lt hj,hx,cond_true,cond_false]
      rw[wrap64 (by omega) (by omega)];rfl
     ·simp only[tAt_drop hj,plGo,hx,cond_false];rfl
 ·cases h
theorem r91 (l:List Term.D) (t:Term.D):run (orc []) Λ91 [(0,live91)] F91 (encA [.v (.sl Term),.v Term] (l,t)) []=
 bif decide ((l.length:Int)=l.length)&&decide ((l.length:Int)≤9223372036854775807)then
  bif decide (plGo t l 0<0)then some (.one (.int .i64 (-1)))else some (.one (.int .i64 (plGo t l 0)))
 else none:=by kernel_rfl
def s91:Sp:= .fn [.v (.sl Term),.v Term] fun x=>(true,.one (.int .i64 (plGo x.2 x.1 0)))
theorem len_max {l:List Term.D} (hw:l.length≤9223372036854775807):(decide ((l.length:Int)=l.length)&&decide ((l.length:Int)≤9223372036854775807))=true:=by
 have hmax:(l.length:Int)≤9223372036854775807:=by omega
 simp [hmax]
theorem g91:GoodS Tryz.prog N91 s91:=by
 refine good (.nil _) H91 rfl (by kernel_rfl) Λ91 [(0,live91)] (oneLoop (p0:=loop1 F91) (by kernel_rfl) loop91) [.v (.sl Term),.v Term] (by decide) [] _ fun x r hw h=> ?_
 obtain⟨l,t⟩:=x
 cases h
 refine(r91 l t).trans ?_
 rw[len_max hw.1.1,cond_true]
 rcases plGo_ge t l 0 with h|h
 ·rw[h];rfl
 ·have:decide (plGo t l 0<0)=false:=by simpa using h
  rw[this];rfl
def ckBad (l:List Term.D) (t:Term.D) (i:Int):Bool:=bif !mayR t i then true else decide (plGo t (l.take i.toNat) 0≥0)
def ckGo (l:List Term.D):List Term.D→Int→Bool
 |[],_=>true
 |t::r,i=>bif ckBad l t i then false else ckGo l r (i+1)
def ckAt (l:List Term.D):List Term.D→Int→Int
 |[],i=>i
 |t::r,i=>bif ckBad l t i then i else ckAt l r (i+1)
abbrev live51:List (Nat×Dir):=[(0,.keep),(2,.keep),(8,.keep),(9,.keep),(10,.keep)]
def Γ51:Orc:=orc [(N90,s90),(N91,s91)]
def vs51 (l l2:List Term.D) (r n i:Int):List AV:=
 [.one (.sl false Term none l),.one (.int .i64 r),.one (.sl false Term none l2),.one (.int .i64 n),.one (.int .i64 i)]
def Λ51:Lam AV:=fun cur vs K=>
 match cur,vs with
 |0,[.one (.sl false (.pair (.int .i64) (.pair (.int .i64) (.int .i64))) none l),.one (.int .i64 0),.one (.sl false (.pair (.int .i64) (.pair (.int .i64) (.int .i64))) none l2),.one (.int .i64 n),.one (.int .i64 0)]=>
  bif decide (n=l2.length)&&decide (n≤9223372036854775807)&&decide (l.length=l2.length)then
   bif ckGo l l2 0 then K (.exit 0) (vs51 l l2 0 n n)else K .ret (vs51 l l2 1 n (ckAt l l2 0))
  else none
 |_,_=>none
def inSl (i:Int) (n:Nat):Bool:=decide (0≤i)&&decide (i≤(n:Int))
theorem inSl_lt {j n:Nat} (h:j≤n):inSl (j:Int) n=true:=by simp [inSl];omega
theorem step51 (l l2:List Term.D) (r n i:Int) (K:AE→List AV→Option AV) (fuel:Nat):
 loopN (aexec tb Γ51 Λ51 ⟨28,0,[(0,live51)]⟩ (loop1 F51).2 0) 28 0 live51 K (fuel+1) (vs51 l l2 r n i)=
 bif decide (i<n)then
  bif inB i l2.length then
   bif !mayR (tAt l2 i) i then K .ret (vs51 l l2 1 n i)
   else bif inSl i l.length then
    bif decide (plGo (tAt l2 i) (l.take i.toNat) 0≥0)then K .ret (vs51 l l2 1 n i)
    else loopN (aexec tb Γ51 Λ51 ⟨28,0,[(0,live51)]⟩ (loop1 F51).2 0) 28 0 live51 K fuel (vs51 l l2 r n (IntKind.i64.wrap (i+1)))
   else none
  else none
 else K (.exit 0) (vs51 l l2 r n i):=by kernel_rfl
theorem loop51:LoopP tb Γ51 Λ51 ⟨28,0,[(0,live51)]⟩ (loop1 F51):=by
 intro vs K out h
 have hcur:(loop1 F51).1=0:=by kernel_rfl
 rw[hcur]at h⊢
 unfold Λ51 at h
 split at h
 ·rename_i l l2 n _
  cases hc:(decide (n=l2.length)&&decide (n≤9223372036854775807)&&decide (l.length=l2.length))with
  |false=>rw[hc]at h;cases h
  |true=>
   rw[hc]at h
   simp only[cond_true]at h
   simp only[Bool.and_eq_true,decide_eq_true_eq]at hc
   obtain⟨⟨rfl,hmax⟩,hl⟩:=hc
   refine upLoop (α:=Unit) (n:=l2.length) (F:=fun fuel _ i=>loopN (aexec tb Γ51 Λ51 ⟨28,0,[(0,live51)]⟩ (loop1 F51).2 0) 28 0 live51 K fuel (vs51 l l2 0 l2.length i))
    (G:=fun j _=>bif ckGo l (l2.drop j) j then K (.exit 0) (vs51 l l2 0 l2.length l2.length)else K .ret (vs51 l l2 1 l2.length (ckAt l (l2.drop j) j)))
    (fun fuel _=> ?_) (fun _ j hj=> ?_) l2.length 0 () out (by omega) h
   ·simp only[step51,nlt_dec,cond_false,List.drop_length,ckGo,cond_true]
   ·have hs:inSl (j:Int) l.length=true:=inSl_lt (by omega)
    cases h1: !mayR (tAt l2 j) j with
    |true=>
     right;intro fuel
     simp only[step51,lt_dec hj,inB_lt hj,h1,cond_true,cond_false,tAt_drop hj,ckGo,ckAt,ckBad]
    |false=>
     cases h2:decide (plGo (tAt l2 j) (l.take (j:Int).toNat) 0≥0)with
     |true=>
      right;intro fuel
      simp only[step51,lt_dec hj,inB_lt hj,h1,hs,h2,cond_true,cond_false,tAt_drop hj,ckGo,ckAt,ckBad]
     |false=>
      left;refine⟨(),fun fuel=> ?_, ?_⟩
      ·simp only[step51,lt_dec hj,inB_lt hj,h1,hs,h2,cond_true,cond_false]
       rw[wrap64 (by omega) (by omega)];rfl
      ·simp only[tAt_drop hj,ckGo,ckAt,ckBad,h1,h2,cond_false];rfl
 ·cases h
theorem r51 (l:List Term.D):run Γ51 Λ51 [(0,live51)] F51 (encA [.v (.sl Term)] l) []=
 bif decide ((l.length:Int)>65536)then some (.one (.int .i64 1))else
 bif decide ((l.length:Int)=l.length)&&decide ((l.length:Int)≤9223372036854775807)&&decide (l.length=l.length)then
  bif ckGo l l 0 then some (.one (.int .i64 0))else some (.one (.int .i64 1))
 else none:=by kernel_rfl
def checkR (l:List Term.D):Int:=bif decide ((l.length:Int)>65536)then 1 else bif ckGo l l 0 then 0 else 1
def s51:Sp:= .fn [.v (.sl Term)] fun l=>(true,.one (.int .i64 (checkR l)))
theorem g51:GoodS Tryz.prog N51 s51:=by
 refine good (.cons g90 (.cons g91 (.nil _))) H51 rfl (by kernel_rfl) Λ51 [(0,live51)] (oneLoop (p0:=loop1 F51) (by kernel_rfl) loop51) [.v (.sl Term)] (by decide) [] _ fun l r hw h=> ?_
 cases h
 refine(r51 l).trans ?_
 rw[len_max hw.1,decide_eq_true (rfl:l.length=l.length)]
 simp only[Bool.and_self,cond_true,checkR]
 cases decide ((l.length:Int)>65536)<;>cases ckGo l l 0<;>rfl
def findRBad (l:List Term.D) (t:Term.D):Bool:=bif checkR l != 0 then true else !mayR t l.length
def findR (l:List Term.D) (t:Term.D):Int×Int:=bif findRBad l t then(0,1)else bif decide (plGo t l 0<0)then(0,4)else(plGo t l 0,0)
def Γ105:Orc:=orc [(N51,s51),(N90,s90),(N91,s91)]
theorem r105 (l:List Term.D) (t:Term.D):run Γ105 noL [] F105 (encA [.v (.sl Term),.v Term] (l,t)) []=
 bif findRBad l t then some (.tup [(false,[.int .i64 0]),(false,[.int .i64 1])])else
 bif decide (plGo t l 0<0)then some (.tup [(false,[.int .i64 0]),(false,[.int .i64 4])])else some (.tup [(false,[.int .i64 (plGo t l 0)]),(false,[.int .i64 0])]):=by kernel_rfl
def s105:Sp:= .fn [.v (.sl Term),.v Term] fun x=>(true,.tup [(false,[.int .i64 (findR x.1 x.2).1]),(false,[.int .i64 (findR x.1 x.2).2])])
theorem g105:GoodS Tryz.prog N105 s105:=by
 refine good (.cons g51 (.cons g90 (.cons g91 (.nil _)))) H105 rfl (by kernel_rfl) noL [] (noLoops (by kernel_rfl)) [.v (.sl Term),.v Term] (by decide) [] _ fun x r hw h=> ?_
 obtain⟨l,t⟩:=x
 cases h
 refine(r105 l t).trans ?_
 simp only[findR]
 cases findRBad l t<;>cases decide (plGo t l 0<0)<;>rfl
def Γ89:Orc:=orc [(N105,s105)]
def o89 (l:List Term.D) (t:Term.D):Option AV:=bif small24 l.length then(bif decide ((l.length+[t].length)*24≤140737488355328)then some (.tup [(false,[.int .i64 l.length]),(false,[.sl true Term none (l++[t])]),(false,[.int .i64 0])])else none)else none
def makeR (l:List Term.D) (t:Term.D):Int×List Term.D×Int:=
 bif (findR l t).2==1 then(0,[],(findR l t).2)else bif (findR l t).2==0 then((findR l t).1,l,0)else bif (l.length:Int)==65536 then(0,[],6)else(l.length,l++[t],0)
theorem r89 (l:List Term.D) (t:Term.D):run Γ89 noL [] F89 (encA [.v (.sl Term),.v Term] (l,t)) [.id,.sl true Term,.id]=
 bif (findR l t).2==1 then some (.tup [(false,[.int .i64 0]),(false,[.sl true Term none []]),(false,[.int .i64 (findR l t).2])])else
 bif (findR l t).2==0 then(bif small24 l.length then some (.tup [(false,[.int .i64 (findR l t).1]),(false,[.sl true Term none l]),(false,[.int .i64 0])])else none)else
 bif (l.length:Int)==65536 then some (.tup [(false,[.int .i64 0]),(false,[.sl true Term none []]),(false,[.int .i64 6])])else
 allSame [o89 l t,o89 l t,o89 l t]:=by kernel_rfl
theorem checkR_len {l:List Term.D} (h:checkR l=0):l.length≤65536:=by
 unfold checkR at h
 cases hd:decide ((l.length:Int)>65536)with
 |true=>rw[hd]at h;simp at h
 |false=>simp at hd;omega
theorem findR_cases (l:List Term.D) (t:Term.D):(findR l t).2=1∨(l.length≤65536∧((findR l t).2=0∨(findR l t).2=4)):=by
 unfold findR findRBad
 cases h:checkR l != 0 with
 |true=>exact .inl rfl
 |false=>
  have h0:checkR l=0:=by simpa using h
  have:=checkR_len h0
  simp only[cond_false]
  cases mayR t l.length with
  |false=>exact .inl rfl
  |true=>
   refine .inr ⟨this, ?_⟩
   cases decide (plGo t l 0<0)
   ·exact .inl rfl
   ·exact .inr rfl
def s89:Sp:= .fn [.v (.sl Term),.v Term] fun x=>(true,.tup [(false,[.int .i64 (makeR x.1 x.2).1]),(false,[.sl true Term none (makeR x.1 x.2).2.1]),(false,[.int .i64 (makeR x.1 x.2).2.2])])
theorem g89:GoodS Tryz.prog N89 s89:=by
 refine good (.cons g105 (.nil _)) H89 rfl (by kernel_rfl) noL [] (noLoops (by kernel_rfl)) [.v (.sl Term),.v Term] (by decide) [.id,.sl true Term,.id] _ fun x r hw h=> ?_
 obtain⟨l,t⟩:=x
 cases h
 refine(r89 l t).trans ?_
 simp only[makeR]
 rcases findR_cases l t with h1|⟨hl,h1⟩
 ·rw[h1];rfl
 ·have hs:=small_of hl
  have hs2:decide ((l.length+[t].length)*24≤140737488355328)=true:=decide_eq_true (by simp;omega)
  rcases h1 with h1|h1<;>rw[h1]
  ·rw[hs];rfl
  ·cases (l.length:Int)==65536 with
   |true=>rfl
   |false=>
    have:o89 l t=some (.tup [(false,[.int .i64 l.length]),(false,[.sl true Term none (l++[t])]),(false,[.int .i64 0])]):=by unfold o89;rw[hs,hs2];rfl
    rw[this]
    exact allSame_rep _ 2
abbrev live26:List (Nat×Dir):=[(0,.keep),(1,.keep),(4,.keep),(12,.keep),(13,.keep)]
def vs26 (a b:List Term.D) (r:Bool) (n i:Int):List AV:=
 [.one (.sl false Term none a),.one (.sl false Term none b),.one (.bool r),.one (.int .i64 n),.one (.int .i64 i)]
def eqGo:List Term.D→List Term.D→Bool
 |a::l,b::m=>bif eqD Term a b then eqGo l m else false
 |_,_=>true
def eqAt:List Term.D→List Term.D→Int→Int
 |a::l,b::m,i=>bif eqD Term a b then eqAt l m (i+1)else i
 |_,_,i=>i
def Λ26:Lam AV:=fun cur vs K=>
 match cur,vs with
 |0,[.one (.sl false (.pair (.int .i64) (.pair (.int .i64) (.int .i64))) none a),.one (.sl false (.pair (.int .i64) (.pair (.int .i64) (.int .i64))) none b),.one (.bool false),.one (.int .i64 n),.one (.int .i64 0)]=>
  bif decide (n=a.length)&&decide (n≤9223372036854775807)&&decide (a.length=b.length)then
   bif eqGo a b then K (.exit 0) (vs26 a b false n n)else K .ret (vs26 a b false n (eqAt a b 0))
  else none
 |_,_=>none
theorem step26 (a b:List Term.D) (r:Bool) (n i:Int) (K:AE→List AV→Option AV) (fuel:Nat):
 loopN (aexec tb (orc []) Λ26 ⟨26,0,[(0,live26)]⟩ (loop1 F26).2 0) 26 0 live26 K (fuel+1) (vs26 a b r n i)=
 bif decide (i<n)then
  bif inB i a.length then
   bif inB i b.length then
    bif !eqD Term (tAt a i) (tAt b i)then K .ret (vs26 a b false n i)
    else loopN (aexec tb (orc []) Λ26 ⟨26,0,[(0,live26)]⟩ (loop1 F26).2 0) 26 0 live26 K fuel (vs26 a b r n (IntKind.i64.wrap (i+1)))
   else none
  else none
 else K (.exit 0) (vs26 a b r n i):=by kernel_rfl
theorem loop26:LoopP tb (orc []) Λ26 ⟨26,0,[(0,live26)]⟩ (loop1 F26):=by
 intro vs K out h
 have hcur:(loop1 F26).1=0:=by kernel_rfl
 rw[hcur]at h⊢
 unfold Λ26 at h
 split at h
 ·rename_i a b n _
  cases hc:(decide (n=a.length)&&decide (n≤9223372036854775807)&&decide (a.length=b.length))with
  |false=>rw[hc]at h;cases h
  |true=>
   rw[hc]at h
   simp only[cond_true]at h
   simp only[Bool.and_eq_true,decide_eq_true_eq]at hc
   obtain⟨⟨rfl,hmax⟩,hl⟩:=hc
   refine upLoop (α:=Unit) (n:=a.length) (F:=fun fuel _ i=>loopN (aexec tb (orc []) Λ26 ⟨26,0,[(0,live26)]⟩ (loop1 F26).2 0) 26 0 live26 K fuel (vs26 a b false a.length i))
    (G:=fun j _=>bif eqGo (a.drop j) (b.drop j)then K (.exit 0) (vs26 a b false a.length a.length)else K .ret (vs26 a b false a.length (eqAt (a.drop j) (b.drop j) j)))
    (fun fuel _=> ?_) (fun _ j hj=> ?_) a.length 0 () out (by omega) h
   ·have e:eqGo (a.drop a.length) (b.drop a.length)=true:=by simp [eqGo]
    simp only[step26,nlt_dec,cond_false,e,cond_true]
   ·have hj':j<b.length:=by omega
    cases h1:eqD Term (tAt a j) (tAt b j)with
    |false=>
     right;intro fuel
     simp only[step26,lt_dec hj,inB_lt hj,inB_lt hj',h1,cond_true,cond_false,tAt_drop hj,tAt_drop hj',eqGo,eqAt,Bool.not_false]
    |true=>
     left;refine⟨(),fun fuel=> ?_, ?_⟩
     ·simp only[step26,lt_dec hj,inB_lt hj,inB_lt hj',h1,cond_true,cond_false,Bool.not_true]
      rw[wrap64 (by omega) (by omega)];rfl
     ·simp only[tAt_drop hj,tAt_drop hj',eqGo,eqAt,h1,cond_true];rfl
 ·cases h
theorem r26 (a b:List Term.D):run (orc []) Λ26 [(0,live26)] F26 (encA [.v (.sl Term),.v (.sl Term)] (a,b)) []=
 bif (a.length:Int) != b.length then ob false else
 bif decide ((a.length:Int)=a.length)&&decide ((a.length:Int)≤9223372036854775807)&&decide (a.length=b.length)then
  bif eqGo a b then ob true else ob false
 else none:=by kernel_rfl
theorem eqTD {a b:Term.D}:eqD Term a b=true↔a=b:=by
 obtain⟨a1,a2,a3⟩:=a
 obtain⟨b1,b2,b3⟩:=b
 simp [eqD]
theorem eqGo_iff: ∀ {a b:List Term.D},a.length=b.length→(eqGo a b=true↔a=b)
 |[],[],_=>by simp [eqGo]
 |a::l,b::m,h=>by
  simp only[eqGo,List.cons.injEq]
  cases hq:eqD Term a b with
  |true=>simp only[cond_true,eqGo_iff (show l.length=m.length by simpa using h),eqTD.1 hq,true_and]
  |false=>
   have: ¬a=b:=fun e=>by rw[eqTD.2 e]at hq;cases hq
   simp [this]
 |[],_::_,h=>by simp at h
 |_::_,[],h=>by simp at h
def sameL (a b:List Term.D):Bool:=decide (a=b)
def s26:Sp:= .fn [.v (.sl Term),.v (.sl Term)] fun x=>(true,.one (.bool (sameL x.1 x.2)))
theorem g26:GoodS Tryz.prog N26 s26:=by
 refine good (.nil _) H26 rfl (by kernel_rfl) Λ26 [(0,live26)] (oneLoop (p0:=loop1 F26) (by kernel_rfl) loop26) [.v (.sl Term),.v (.sl Term)] (by decide) [] _ fun x r hw h=> ?_
 obtain⟨a,b⟩:=x
 cases h
 refine(r26 a b).trans ?_
 show _=ob (sameL a b)
 unfold sameL
 cases hl:(a.length:Int) != b.length with
 |true=>
  have hne:a≠b:=fun e=>by subst e;simp at hl
  rw[decide_eq_false hne];rfl
 |false=>
  have hl:a.length=b.length:=by simp at hl;omega
  rw[len_max hw.1.1,decide_eq_true hl]
  simp only[Bool.and_self,cond_true,cond_false]
  cases hq:eqGo a b with
  |true=>rw[decide_eq_true ((eqGo_iff hl).1 hq)];rfl
  |false=>rw[decide_eq_false (fun e=>by rw[(eqGo_iff hl).2 e]at hq;cases hq)];rfl
theorem bool_iff {a b:Bool} (h:a=true↔b=true):a=b:=by
 cases a<;>cases b<;>simp at h<;>rfl
theorem cond_iff {a b c:Bool}:(bif a then b else c)=true↔(a=true∧b=true)∨(a=false∧c=true):=by cases a<;>simp
theorem out5 (k:Int) (h1: ¬k=1) (h2: ¬k=2) (h3: ¬k=3) (h4: ¬k=4) (h5: ¬k=5) (h: ¬k<1):k>5:=by omega
theorem mayR_eq (t:Term.D) (i:Int):mayR t i=mayB t i:=by
 obtain⟨k,a,b⟩:=t
 have lt: ∀a b:Int,decide (a<b)= !decide (b≤a):=fun a b=>by
  by_cases h:a<b
  ·rw[decide_eq_true h,decide_eq_false (by omega)];rfl
  ·rw[decide_eq_false h,decide_eq_true (by omega)];rfl
 by_cases h1:k=1
 ·subst h1
  simp only[mayR,mayB,mayBad,a90,ge_iff_le,bne]
  cases decide (0≤a)<;>cases decide (a≤1048576)<;>cases (b==0)<;>rfl
 by_cases h2:k=2
 ·subst h2
  have ep:partsL (2,a,b)=[a]:=rfl
  simp only[mayR,mayB,mayBad,b90,ep,List.any,badP,ge_iff_le,lt,bne]
  cases decide (0≤a)<;>cases decide (i≤a)<;>cases (b==0)<;>rfl
 by_cases h3:k=3
 ·subst h3
  have ep:partsL (3,a,b)=[a]:=rfl
  simp only[mayR,mayB,mayBad,b90,ep,List.any,badP,ge_iff_le,lt,bne]
  cases decide (0≤a)<;>cases decide (i≤a)<;>cases (b==0)<;>rfl
 by_cases h4:k=4
 ·subst h4
  have ep:partsL (4,a,b)=[a]:=rfl
  simp only[mayR,mayB,mayBad,b90,ep,List.any,badP,ge_iff_le,lt,bne]
  cases decide (0≤a)<;>cases decide (i≤a)<;>cases (b==0)<;>rfl
 by_cases h5:k=5
 ·subst h5
  have ep:partsL (5,a,b)=[a,b]:=rfl
  simp only[mayR,mayB,mayBad,c90,ep,List.any,badP,ge_iff_le,lt,bne]
  cases decide (0≤a)<;>cases decide (i≤a)<;>cases decide (0≤b)<;>cases decide (i≤b)<;>rfl
 ·have e1:(k==1)=false:=by simpa using h1
  have e2:(k==2)=false:=by simpa using h2
  have e3:(k==3)=false:=by simpa using h3
  have e4:(k==4)=false:=by simpa using h4
  have e5:(k==5)=false:=by simpa using h5
  have hk:(bif decide (k<1)then true else decide (k>5))=true:=by
   rw[cond_iff]
   by_cases h:k<1
   ·exact .inl ⟨decide_eq_true h,rfl⟩
   ·exact .inr ⟨decide_eq_false h,decide_eq_true (out5 k h1 h2 h3 h4 h5 h)⟩
  simp only[mayR,mayB,mayBad,e1,e2,e3,e4,e5,hk,cond_false,cond_true]
theorem eqT_comm (a b:Term.D):eqD Term a b=eqD Term b a:=bool_iff (by rw[eqT,eqT];exact eq_comm)
theorem plGo_mem {t:Term.D}: ∀ {l:List Term.D} {i:Int},0≤i→(0≤plGo t l i↔t∈l):=by
 intro l
 induction l with
 |nil=>intro i _;simp [plGo]
 |cons x xs ih=>
  intro i hi
  simp only[plGo]
  cases h:eqD Term x t with
  |true=>simp [eqT.1 h,hi]
  |false=>
   have:=eqT_false.1 h
   simp only[cond_false,ih (Int.le_add_one hi),List.mem_cons]
   exact⟨fun h=> .inr h,fun h=>h.resolve_left (fun e=>this e.symm)⟩
theorem plGo_ents {t:Term.D}: ∀ {l:List Term.D} {i:Int},t∈l→mgetD t (entsFrom l i)=plGo t l i:=by
 intro l
 induction l with
 |nil=>intro i h;cases h
 |cons x xs ih=>
  intro i h
  simp only[entsFrom,plGo,mgetD,mget]
  rw[eqT_comm]
  cases hq:eqD Term x t with
  |true=>rfl
  |false=>
   have:=eqT_false.1 hq
   have:=ih (i:=i+1) ((List.mem_cons.1 h).resolve_left (fun e=>this e.symm))
   unfold mgetD at this
   simpa using this
theorem ckGo_iff (l:List Term.D): ∀(r:List Term.D) (p:List Term.D),l=p++r→(ckGo l r p.length=true↔ ∀(j:Nat) (t:Term.D),r[j]? =some t→mayB t ((p.length:Int)+j)=true∧t ∉ p++r.take j):=by
 intro r
 induction r with
 |nil=>intro p _;simp [ckGo]
 |cons a r ih=>
  intro p hl
  simp only[ckGo]
  have e1:(p.length:Int)+1=((p++[a]).length:Nat):=by simp
  have ht:l.take ((p.length:Int).toNat)=p:=by rw[hl];simp
  have hb:ckBad l a p.length=false↔mayB a p.length=true∧a ∉ p:=by
   unfold ckBad
   rw[ht,mayR_eq]
   cases mayB a p.length with
   |false=>simp
   |true=>
    have:=plGo_mem (t:=a) (l:=p) (i:=0) (by omega)
    simp [←this]
  cases hc:ckBad l a p.length with
  |true=>
   simp only[cond_true]
   refine⟨fun h=>(by cases h),fun h=> ?_⟩
   have:=h 0 a rfl
   have:ckBad l a p.length=false:=hb.2 ⟨by simpa using this.1,by simpa using this.2⟩
   rw[this]at hc;cases hc
  |false=>
   simp only[cond_false]
   obtain⟨g1,g2⟩:=hb.1 hc
   rw[e1,ih (p++[a]) (by simp [hl])]
   refine⟨fun h j t hj=> ?_,fun h j t hj=> ?_⟩
   ·cases j with
    |zero=>
     simp only[List.getElem?_cons_zero,Option.some.injEq]at hj
     subst hj
     simpa [g1]using g2
    |succ j=>
     have:=h j t (by simpa using hj)
     refine⟨?_,by simpa using this.2⟩
     have h3:=this.1
     rw[←e1]at h3
     rw[←h3];congr 1;omega
   ·have:=h (j+1) t (by simpa using hj)
    refine⟨?_,by simpa using this.2⟩
    have h3:=this.1
    rw[←e1,←h3];congr 1;omega
theorem checkR_eq (l:List Term.D):checkR l=checkL l:=by
 have key:checkR l=0↔GoodL l:=by
  unfold checkR
  cases h:decide ((l.length:Int)>65536)with
  |true=>
   refine⟨fun h=>(by simp at h),fun h'=> ?_⟩
   have:=h'.1
   simp at h;omega
  |false=>
   simp only[cond_false]
   have:=ckGo_iff l l [] rfl
   simp only[List.length_nil,List.nil_append]at this
   have e:(((0:Nat):Int))=0:=rfl
   rw[e]at this
   cases hc:ckGo l l 0 with
   |true=>
    rw[hc]at this
    refine⟨fun _=>⟨by simp at h;omega,fun j t hj=> ?_⟩,fun _=>rfl⟩
    simpa using this.1 rfl j t hj
   |false=>
    rw[hc]at this
    refine⟨fun h=>(by simp at h),fun h'=> ?_⟩
    have:=this.2 (fun j t hj=>by simpa using h'.2 j t hj)
    cases this
 have h1:checkR l=0∨checkR l=1:=by
  unfold checkR
  cases decide ((l.length:Int)>65536)<;>cases ckGo l l 0<;>simp
 rcases checkL_cases l with⟨h2,_⟩|⟨h2,_⟩
 ·rw[h2];exact key.2 (checkL_iff.1 h2)
 ·rw[h2]
  refine h1.resolve_left fun h=> ?_
  have:=checkL_iff.2 (key.1 h)
  omega
theorem findR_eq (l:List Term.D) (t:Term.D):findR l t=findL l t:=by
 have hb:findRBad l t=findBad l t:=by
  unfold findRBad findBad
  rw[checkR_eq,mayR_eq]
  rcases checkL_cases l with⟨h1,h2⟩|⟨h1,h2⟩<;>rw[h1,h2]<;>rfl
 unfold findR findL
 rw[hb]
 cases hq:findBad l t with
 |true=>rfl
 |false=>
  have hg:GoodL l:=by
   unfold findBad at hq
   cases h:(ixL l).1 with
   |true=>exact ixL_iff.1 h
   |false=>rw[h]at hq;cases hq
  simp only[cond_false,ixEnts_eq hg]
  have h1:=plGo_mem (t:=t) (l:=l) (i:=0) (Int.le_refl 0)
  have h2:=mhas_ents (t:=t) (l:=l) (i:=0)
  by_cases hm:t∈l
  ·have e1:decide (plGo t l 0<0)=false:=decide_eq_false (Int.not_lt.2 (h1.2 hm))
   rw[e1,h2.2 hm,plGo_ents hm];rfl
  ·have e1:decide (plGo t l 0<0)=true:=decide_eq_true (Int.not_le.1 fun h=>hm (h1.1 h))
   have e2:mhas t (entsFrom l 0)=false:=by
    cases h:mhas t (entsFrom l 0)with
    |false=>rfl
    |true=>exact absurd (h2.1 h) hm
   rw[e1,e2];rfl
theorem makeR_eq (l:List Term.D) (t:Term.D):makeR l t=makeL l t:=by
 unfold makeR makeL
 rw[←findR_eq]
 rcases findR_cases l t with h|⟨_,h|h⟩<;>rw[h]<;>rfl
theorem plain_oct {l:List Term.D} {v:Value.D} (h:checkV l v=0) (hs:v.1=false):(v.2.1 =true∧v=sealV v.2.2.2.1)∨(v.2.1 =false∧v=octV v.2.2.1):=by
 have h2:=(checkV_zero.1 h).2
 have hi:isSym l v=false:=by unfold isSym;rw[hs];rfl
 unfold plainV at h2
 rw[hi]at h2
 cases hb:v.2.1 with
 |true=>rw[hb]at h2;exact .inl ⟨rfl,h2⟩
 |false=>rw[hb]at h2;exact .inr ⟨rfl,h2⟩
theorem r93 (a b:Block.D):run (orc []) noL [] F93 (encA [.v Block,.v Block] (a,b)) []=some (encV Block (xorB a b)):=by kernel_rfl
def s93:Sp:= .fn [.v Block,.v Block] fun x=>(true,encV Block (xorB x.1 x.2))
theorem g93:GoodS Tryz.prog N93 s93:=by
 refine good (.nil _) H93 rfl (by kernel_rfl) noL [] (noLoops (by kernel_rfl)) [.v Block,.v Block] (by decide) [] _ fun x r hw h=> ?_
 cases h
 exact r93 x.1 x.2
def turnU (n k:Int):Int:=IntKind.u64.wrap (BitVec.ofInt 64 (IntKind.u64.wrap (n*2^min k.toNat 64))|||BitVec.ofInt 64 (n.fdiv (2^min (IntKind.i64.wrap (64-k)).toNat 64))).toNat
theorem r122 (n k:Int):run (orc []) noL [] F122 (encA [.v U,.v I] (n,k)) []=bif decide (0≤k)then(bif decide (0≤IntKind.i64.wrap (64-k))then some (.one (.int .u64 (turnU n k)))else none)else none:=by kernel_rfl
theorem turn_ok (n k:Int) (h0:0≤k) (h1:k≤64):(bif decide (0≤k)then(bif decide (0≤IntKind.i64.wrap (64-k))then some (AV.one (.int .u64 (turnU n k)))else none)else none)=some (.one (.int .u64 (turnU n k))):=by
 have e:decide (0≤IntKind.i64.wrap (64-k))=true:=by rw[wrap64 (by omega) (by omega)];exact decide_eq_true (by omega)
 rw[decide_eq_true h0,e]
 rfl
def s122:Sp:= .fn [.v U,.v I] fun x=>(decide (0≤x.2)&&decide (x.2≤64),.one (.int .u64 (turnU x.1 x.2)))
theorem g122:GoodS Tryz.prog N122 s122:=by
 refine good (.nil _) H122 rfl (by kernel_rfl) noL [] (noLoops (by kernel_rfl)) [.v U,.v I] (by decide) [] _ fun x r hw h=> ?_
 obtain⟨n,k⟩:=x
 simp only[Prod.mk.injEq,Bool.and_eq_true,decide_eq_true_eq]at h
 obtain⟨⟨h0,h1⟩,rfl⟩:=h
 exact(r122 n k).trans (turn_ok n k h0 h1)
theorem turn13 (n:Int):turnU n 13=rotU n 13:=by kernel_rfl
theorem turn29 (n:Int):turnU n 29=rotU n 29:=by kernel_rfl
def Γ107:Orc:=orc [(N122,s122)]
def roundR (b:Block.D) (k:Int):Block.D:=
 let a:=turnU (IntKind.u64.wrap (IntKind.u64.wrap (b.1+b.2)+IntKind.u64.wrap (k*11400714819323198485))) 13
 let c:=turnU (xorU b.2 a) 29
 (xorU a c,c)
theorem roundR_eq (b:Block.D) (k:Int):roundR b k=mixStep k b:=by
 unfold roundR mixStep
 simp only[turn13,turn29]
theorem r107 (b:Block.D) (k:Int):run Γ107 noL [] F107 (encA [.v Block,.v U] (b,k)) []=some (encV Block (roundR b k)):=by kernel_rfl
def s107:Sp:= .fn [.v Block,.v U] fun x=>(true,encV Block (mixStep x.2 x.1))
theorem g107:GoodS Tryz.prog N107 s107:=by
 refine good (.cons g122 (.nil _)) H107 rfl (by kernel_rfl) noL [] (noLoops (by kernel_rfl)) [.v Block,.v U] (by decide) [] _ fun x r hw h=> ?_
 cases h
 rw[←roundR_eq]
 exact r107 x.1 x.2
abbrev live94:List (Nat×Dir):=[(1,.keep),(2,.keep),(4,.keep)]
def Γ94:Orc:=orc [(N107,s107)]
def vs94 (z x:Block.D) (k:Int):List AV:=[.own [.int .u64 x.1,.int .u64 x.2],.own [.int .u64 z.1,.int .u64 z.2],.one (.int .i64 k)]
def Λ94:Lam AV:=fun cur vs K=>
 match cur,vs with
 |0,[.own [.int .u64 x,.int .u64 y],.own [.int .u64 e,.int .u64 f],.one (.int .i64 0)]=>K (.exit 0) (vs94 (e,f) (mixB (x,y)) 8)
 |_,_=>none
theorem step94 (z x:Block.D) (k:Int) (K:AE→List AV→Option AV) (fuel:Nat):
 loopN (aexec tb Γ94 Λ94 ⟨13,0,[(0,live94)]⟩ (loop1 F94).2 0) 13 0 live94 K (fuel+1) (vs94 z x k)=
 bif decide (k<8)then loopN (aexec tb Γ94 Λ94 ⟨13,0,[(0,live94)]⟩ (loop1 F94).2 0) 13 0 live94 K fuel (vs94 z (mixStep (IntKind.u64.wrap k) x) (IntKind.i64.wrap (k+1)))
 else K (.exit 0) (vs94 z x k):=by kernel_rfl
theorem loop94:LoopP tb Γ94 Λ94 ⟨13,0,[(0,live94)]⟩ (loop1 F94):=by
 intro vs K out h
 have hcur:(loop1 F94).1=0:=by kernel_rfl
 rw[hcur]at h⊢
 unfold Λ94 at h
 split at h
 ·rename_i x y e f _
  refine upLoop (α:=Block.D) (n:=8) (F:=fun fuel x i=>loopN (aexec tb Γ94 Λ94 ⟨13,0,[(0,live94)]⟩ (loop1 F94).2 0) 13 0 live94 K fuel (vs94 (e,f) x i))
   (G:=fun j x=>K (.exit 0) (vs94 (e,f) (mixGo (8-j) j x) 8)) (fun fuel x=> ?_) (fun x j hj=> ?_) 8 0 (x,y) out (by omega) h
  ·simp only[step94];rfl
  ·left;refine⟨mixStep j x,fun fuel=> ?_, ?_⟩
   ·have h8:decide ((j:Int)<8)=true:=decide_eq_true (by omega)
    simp only[step94,h8,cond_true]
    rw[wrap64 (by omega) (by omega),wrapU (by omega) (by omega)];rfl
   ·rw[show 8-j=(8-(j+1))+1 by omega]
    simp only[mixGo];rfl
 ·cases h
theorem r94 (x:Block.D):run Γ94 Λ94 [(0,live94)] F94 (encA [.v Block] x) []=some (encV Block (mixB x)):=by kernel_rfl
def s94:Sp:= .fn [.v Block] fun x=>(true,encV Block (mixB x))
theorem g94:GoodS Tryz.prog N94 s94:=by
 refine good (.cons g107 (.nil _)) H94 rfl (by kernel_rfl) Λ94 [(0,live94)] (oneLoop (p0:=loop1 F94) (by kernel_rfl) loop94) [.v Block] (by decide) [] _ fun x r hw h=> ?_
 cases h
 exact r94 x
def partBR (b:Block.D) (i:Int):Block.D:=xorB (mixB (xorU b.1 (IntKind.u64.wrap (IntKind.i64.wrap (i+1))),b.2)) b
def Γ55:Orc:=orc [(N93,s93),(N94,s94)]
theorem r55 (b:Block.D) (i:Int):run Γ55 noL [] F55 (encA [.v Block,.v I] (b,i)) []=
 bif bif decide (i<0)then true else decide (i>4)then some (.tup [(true,enc Block true (0,0)),(false,[.int .i64 1])])else
 some (.tup [(true,enc Block true (partBR b i)),(false,[.int .i64 0])]):=by kernel_rfl
theorem xorU_zero {a:Int} (h0:0≤a) (h1:a≤18446744073709551615):xorU a 0=a:=by
 unfold xorU
 have e:BitVec.ofInt 64 0=0#64:=rfl
 rw[e,BitVec.xor_zero]
 obtain⟨n,rfl⟩:=Int.eq_ofNat_of_zero_le h0
 rw[BitVec.ofInt_natCast,BitVec.toNat_ofNat,Nat.mod_eq_of_lt (by omega)]
 exact wrapU (by omega) (by omega)
theorem has_u64 {n:Int} (h:IntKind.u64.has n):0≤n∧n≤18446744073709551615:=by
 obtain⟨h1,h2⟩:=h
 exact⟨by simpa [IntKind.min,IntKind.signed]using h1,by simpa [IntKind.max,IntKind.signed,IntKind.bits]using h2⟩
theorem partBR_eq {b:Block.D} (h:WF Block b) (i:Int):partBR b i=partB b i:=by
 unfold partBR partB
 have h2:=has_u64 h.2
 have e:xorB b (IntKind.u64.wrap (IntKind.i64.wrap (i+1)),0)=(xorU b.1 (IntKind.u64.wrap (IntKind.i64.wrap (i+1))),b.2):=by
  unfold xorB
  rw[xorU_zero h2.1 h2.2]
 rw[e]
theorem g55:GoodS Tryz.prog N55 s53:=by
 refine good (.cons g93 (.cons g94 (.nil _))) H55 rfl (by kernel_rfl) noL [] (noLoops (by kernel_rfl)) [.v Block,.v I] (by decide) [] _ fun x r hw h=> ?_
 cases h
 refine(r55 x.1 x.2).trans ?_
 rw[partBR_eq hw.1]
 unfold partR
 cases bif decide (x.2<0)then true else decide (x.2>4)<;>rfl
@[reducible] def V1:List AK:=[.v (.sl Term),.v Value]
def mayV (l:List Term.D) (v:Value.D):Bool:=bif v.1 then(bif bif valEq v (symV v.2.2.2.2)then decide (v.2.2.2.2 ≥0)else false then decide (v.2.2.2.2 <(l.length:Int))else false)else
 bif v.2.1 then valEq v (sealV v.2.2.2.1)else valEq v (octV v.2.2.1)
theorem r59 (l:List Term.D) (v:Value.D):run (orc []) noL [] F59 (encA V1 (l,v)) []=
 bif v.1 then ob (bif bif valEq v (symV v.2.2.2.2)then decide (v.2.2.2.2 ≥0)else false then decide (v.2.2.2.2 <(l.length:Int))else false)else
 bif v.2.1 then ob (valEq v (sealV v.2.2.2.1))else ob (valEq v (octV v.2.2.1)):=by kernel_rfl
def s59:Sp:= .fn V1 fun x=>(true,.one (.bool (mayV x.1 x.2)))
theorem g59:GoodS Tryz.prog N59 s59:=by
 refine good (.nil _) H59 rfl (by kernel_rfl) noL [] (noLoops (by kernel_rfl)) V1 (by decide) [] _ fun x r _ h=> ?_
 obtain⟨l,v⟩:=x
 cases h
 refine(r59 l v).trans ?_
 show _=ob (mayV l v)
 unfold mayV
 cases v.1<;>cases v.2.1 <;>rfl
def Γ27:Orc:=orc [(N51,s51),(N59,s59)]
def checkVR (l:List Term.D) (v:Value.D):Int:=bif bif checkR l != 0 then true else !mayV l v then 1 else 0
theorem r27 (l:List Term.D) (v:Value.D):run Γ27 noL [] F27 (encA V1 (l,v)) []=bif bif checkR l != 0 then true else !mayV l v then some (.one (.int .i64 1))else some (.one (.int .i64 0)):=by kernel_rfl
def s27:Sp:= .fn V1 fun x=>(true,.one (.int .i64 (checkVR x.1 x.2)))
theorem g27:GoodS Tryz.prog N27 s27:=by
 refine good (.cons g51 (.cons g59 (.nil _))) H27 rfl (by kernel_rfl) noL [] (noLoops (by kernel_rfl)) V1 (by decide) [] _ fun x r _ h=> ?_
 obtain⟨l,v⟩:=x
 cases h
 refine(r27 l v).trans ?_
 simp only[checkVR]
 cases bif checkR l != 0 then true else !mayV l v<;>rfl
def shutG (l:List Term.D) (v:Value.D):Bool:=bif v.1 then inB v.2.2.2.2 l.length else true
theorem r54 (l:List Term.D) (v:Value.D):run (orc []) noL [] F54 (encA V1 (l,v)) []=
 bif v.1 then(bif inB v.2.2.2.2 l.length then ob ((tAt l v.2.2.2.2).1==5)else none)else ob v.2.1 :=by kernel_rfl
def s54:Sp:= .fn V1 fun x=>(shutG x.1 x.2,.one (.bool (ownV x.1 x.2)))
theorem g54:GoodS Tryz.prog N54 s54:=by
 refine good (.nil _) H54 rfl (by kernel_rfl) noL [] (noLoops (by kernel_rfl)) V1 (by decide) [] _ fun x r _ h=> ?_
 obtain⟨l,v⟩:=x
 simp only[Prod.mk.injEq]at h
 obtain⟨h1,rfl⟩:=h
 refine(r54 l v).trans ?_
 show _=ob (ownV l v)
 unfold shutG at h1
 unfold ownV
 cases hv:v.1 with
 |true=>rw[hv]at h1;simp only[cond_true]at h1;rw[h1];rfl
 |false=>rfl
def Γ56:Orc:=orc [(N27,s27),(N59,s59)]
def twoR (l:List Term.D) (a b:Value.D):Bool:=bif bif checkVR l a==0 then mayV l b else false then a.1==b.1 else false
theorem r56 (l:List Term.D) (a b:Value.D):run Γ56 noL [] F56 (encA V3 (l,a,b)) []=ob (twoR l a b):=by kernel_rfl
def s56:Sp:= .fn V3 fun x=>(true,.one (.bool (twoR x.1 x.2.1 x.2.2)))
theorem g56:GoodS Tryz.prog N56 s56:=by
 refine good (.cons g27 (.cons g59 (.nil _))) H56 rfl (by kernel_rfl) noL [] (noLoops (by kernel_rfl)) V3 (by decide) [] _ fun x r _ h=> ?_
 cases h
 exact r56 x.1 x.2.1 x.2.2
theorem r52 (l:List Term.D):run (orc []) noL [] F52 (encA [.v (.sl Term)] l) [.arr Term]=bif small24 l.length then some (.arr true Term l)else none:=by kernel_rfl
def s52:Sp:= .fn [.v (.sl Term)] fun l=>(small24 l.length,.arr true Term l)
theorem g52:GoodS Tryz.prog N52 s52:=by
 refine good (.nil _) H52 rfl (by kernel_rfl) noL [] (noLoops (by kernel_rfl)) [.v (.sl Term)] (by decide) [.arr Term] _ fun l r _ h=> ?_
 simp only[Prod.mk.injEq]at h
 obtain⟨h1,rfl⟩:=h
 refine(r52 l).trans ?_
 rw[h1];rfl
def Γ50:Orc:=orc [(N89,s89)]
def madeR (l:List Term.D) (t:Term.D):Value.D×List Term.D×Int:=bif (makeR l t).2.2 != 0 then(zeroV,[],(makeR l t).2.2)else(symV (makeR l t).1,(makeR l t).2.1,0)
theorem r50 (l:List Term.D) (t:Term.D):run Γ50 noL [] F50 (encA [.v (.sl Term),.v Term] (l,t)) wVle=
 bif (makeR l t).2.2 != 0 then some (vle (zeroV,[],(makeR l t).2.2))else some (vle (symV (makeR l t).1,(makeR l t).2.1,0)):=by kernel_rfl
def s50:Sp:= .fn [.v (.sl Term),.v Term] fun x=>(true,vle (madeR x.1 x.2))
theorem g50:GoodS Tryz.prog N50 s50:=by
 refine good (.cons g89 (.nil _)) H50 rfl (by kernel_rfl) noL [] (noLoops (by kernel_rfl)) [.v (.sl Term),.v Term] (by decide) wVle _ fun x r hw h=> ?_
 cases h
 refine(r50 x.1 x.2).trans ?_
 simp only[madeR]
 cases (makeR x.1 x.2).2.2 != 0<;>rfl
def Γ23:Orc:=orc [(N27,s27),(N50,s50),(N52,s52),(N54,s54),(N55,s53)]
def Γ25:Orc:=orc [(N54,s54),(N56,s56),(N58,s48)]
theorem checkVR_zero {l:List Term.D} {v:Value.D}:checkVR l v=0↔checkR l=0∧mayV l v=true:=by
 unfold checkVR
 cases h1:checkR l != 0 with
 |true=>have:checkR l≠0:=by simpa using h1
        simp [this]
 |false=>have:checkR l=0:=by simpa using h1
         cases h2:mayV l v<;>simp [this]
theorem shut_ok {l:List Term.D} {v:Value.D} (h:mayV l v=true):shutG l v=true:=by
 unfold mayV at h
 unfold shutG
 cases hv:v.1 with
 |false=>rfl
 |true=>
  rw[hv]at h
  simp only[cond_true]at h⊢
  cases h1:valEq v (symV v.2.2.2.2)with
  |false=>rw[h1]at h;cases h
  |true=>
   rw[h1]at h
   cases h2:decide (v.2.2.2.2 ≥0)with
   |false=>rw[h2]at h;cases h
   |true=>
    rw[h2]at h
    unfold inB
    simp only[cond_true]at h
    rw[h,Bool.and_true]
    exact h2
theorem guard_ok {g b:Bool} (h:b=false→g=true):(g|| !boolBeq b false)=true:=by
 cases b with
 |true=>cases g<;>rfl
 |false=>rw[h rfl];rfl
theorem twoR_iff {l:List Term.D} {a b:Value.D}:twoR l a b=true↔checkR l=0∧mayV l a=true∧mayV l b=true∧a.1=b.1:=by
 unfold twoR
 cases h1:checkVR l a==0 with
 |false=>
  have: ¬checkVR l a=0:=by simpa using h1
  rw[checkVR_zero]at this
  simp only[cond_false]
  constructor
  ·intro h;cases h
  ·intro⟨g1,g2,_⟩;exact absurd ⟨g1,g2⟩ this
 |true=>
  have:checkVR l a=0:=by simpa using h1
  obtain⟨g1,g2⟩:=checkVR_zero.1 this
  simp only[cond_true,g1,g2,true_and]
  cases mayV l b<;>simp
def partRBad (l:List Term.D) (v:Value.D) (i:Int):Bool:=bif bif bif checkVR l v != 0 then true else ownV l v then true else decide (i<0)then true else decide (i>2)
def partVR (l:List Term.D) (v:Value.D) (i:Int):Value.D×List Term.D×Int:=
 bif partRBad l v i then(zeroV,[],1)else bif v.1 then madeR l (IntKind.i64.wrap (2+i),v.2.2.2.2,0)else(octV (partR v.2.2.1 i).1,l,0)
theorem r23 (l:List Term.D) (v:Value.D) (i:Int):run Γ23 noL [] F23 (encA P3 (l,v,i)) wVle=
 bif shutG l v|| !boolBeq (checkVR l v != 0) false then
  bif partRBad l v i then some (vle (zeroV,[],1))else bif v.1 then some (vle (madeR l (IntKind.i64.wrap (2+i),v.2.2.2.2,0)))else bif small24 l.length then some (vle (octV (partR v.2.2.1 i).1,l,0))else none
 else none:=by kernel_rfl
def s23:Sp:= .fn P3 fun x=>(true,vle (partVR x.1 x.2.1 x.2.2))
theorem g23:GoodS Tryz.prog N23 s23:=by
 refine good (.cons g27 (.cons g50 (.cons g52 (.cons g54 (.cons g55 (.nil _)))))) H23 rfl (by kernel_rfl) noL [] (noLoops (by kernel_rfl)) P3 (by decide) wVle _ fun x r hw h=> ?_
 obtain⟨l,v,i⟩:=x
 cases h
 refine(r23 l v i).trans ?_
 rw[guard_ok (fun h=>shut_ok (checkVR_zero.1 (by simpa using h)).2),cond_true]
 simp only[partVR]
 cases h0:partRBad l v i with
 |true=>rfl
 |false=>
  cases v.1 with
  |true=>rfl
  |false=>
   unfold partRBad at h0
   cases h1:checkVR l v != 0 with
   |true=>rw[h1]at h0;cases h0
   |false=>
    have hz:checkVR l v=0:=by simpa using h1
    rw[small_of (checkR_len (checkVR_zero.1 hz).1)];rfl
theorem two_shut1 {l:List Term.D} {k v:Value.D}:(shutG l k|| !boolBeq (!twoR l k v) false)=true:=
 guard_ok fun h=>shut_ok (twoR_iff.1 (by simpa using h)).2.1
theorem two_shut2 {l:List Term.D} {k v:Value.D}:(shutG l v|| !boolBeq (bif !twoR l k v then true else ownV l k) false)=true:=
 guard_ok fun h=>by
  cases h2:twoR l k v with
  |false=>rw[h2]at h;cases h
  |true=>exact shut_ok (twoR_iff.1 h2).2.2.1
def unwrapRBad (l:List Term.D) (k w:Value.D):Bool:=bif bif !twoR l k w then true else ownV l k then true else !ownV l w
def unwrapVR (l:List Term.D) (k w:Value.D):Value.D×Int:=
 bif unwrapRBad l k w then(zeroV,1)else
 bif k.1 then(bif (tAt l w.2.2.2.2).2.1 != k.2.2.2.2 then(zeroV,7)else(symV (tAt l w.2.2.2.2).2.2,0))else
 bif (unwrapR k.2.2.1 w.2.2.2.1).2 != 0 then(zeroV,(unwrapR k.2.2.1 w.2.2.2.1).2)else(octV (unwrapR k.2.2.1 w.2.2.2.1).1,0)
theorem r25 (l:List Term.D) (k w:Value.D):run Γ25 noL [] F25 (encA V3 (l,k,w)) []=
 bif shutG l k|| !boolBeq (!twoR l k w) false then
  bif shutG l w|| !boolBeq (bif !twoR l k w then true else ownV l k) false then
   bif unwrapRBad l k w then some (ve (zeroV,1))else
   bif k.1 then(bif inB w.2.2.2.2 l.length then(bif (tAt l w.2.2.2.2).2.1 != k.2.2.2.2 then some (ve (zeroV,7))else bif inB w.2.2.2.2 l.length then some (ve (symV (tAt l w.2.2.2.2).2.2,0))else none)else none)else
   bif (unwrapR k.2.2.1 w.2.2.2.1).2 != 0 then some (ve (zeroV,(unwrapR k.2.2.1 w.2.2.2.1).2))else some (ve (octV (unwrapR k.2.2.1 w.2.2.2.1).1,0))
  else none
 else none:=by kernel_rfl
def s25:Sp:= .fn V3 fun x=>(true,ve (unwrapVR x.1 x.2.1 x.2.2))
theorem g25 (g58:GoodS Tryz.prog N58 s48):GoodS Tryz.prog N25 s25:=by
 refine good (.cons g54 (.cons g56 (.cons g58 (.nil _)))) H25 rfl (by kernel_rfl) noL [] (noLoops (by kernel_rfl)) V3 (by decide) [] _ fun x r hw h=> ?_
 obtain⟨l,k,w⟩:=x
 cases h
 refine(r25 l k w).trans ?_
 rw[two_shut1,two_shut2,cond_true,cond_true]
 simp only[unwrapVR]
 cases h0:unwrapRBad l k w with
 |true=>rfl
 |false=>
  unfold unwrapRBad at h0
  cases h1:twoR l k w with
  |false=>rw[h1]at h0;cases h0
  |true=>
   obtain⟨_,_,hm,he⟩:=twoR_iff.1 h1
   cases hk:k.1 with
   |true=>
    have hs:=shut_ok hm
    unfold shutG at hs
    rw[←he,hk,cond_true]at hs
    rw[hs]
    cases (tAt l w.2.2.2.2).2.1 != k.2.2.2.2 <;>rfl
   |false=>cases (unwrapR k.2.2.1 w.2.2.2.1).2 != 0<;>rfl
theorem madeR_eq (l:List Term.D) (t:Term.D):madeR l t=madeV l t:=by
 unfold madeR madeV;rw[makeR_eq]
theorem mayV_eq (l:List Term.D) (v:Value.D):mayV l v=valEq v (plainV l v):=by
 apply bool_iff
 rw[valEq_iff]
 unfold plainV isSym mayV
 obtain⟨s,z,b,x,i⟩:=v
 cases s with
 |true=>
  simp only[cond_true]
  cases h1:decide (i≥0)<;>cases h2:decide (i<(l.length:Int))<;>simp only[cond_true,cond_false]<;>rw[cond_iff]<;>simp only[cond_iff,valEq_iff]
  all_goals
   first
   |(cases z<;>simp [sealV,octV,symV])
   |simp [symV]
 |false=>
  simp only[cond_false]
  cases z<;>simp only[cond_true,cond_false,valEq_iff]
theorem checkVR_eq (l:List Term.D) (v:Value.D):checkVR l v=checkV l v:=by
 unfold checkVR checkV
 rw[checkR_eq,mayV_eq]
 rcases checkL_cases l with⟨h1,_⟩|⟨h1,_⟩<;>rw[h1]<;>cases valEq v (plainV l v)<;>rfl
theorem partRBad_eq (l:List Term.D) (v:Value.D) (i:Int):partRBad l v i=partBad l v i:=by
 have h:=isV_one (l:=l) (a:=false) (v:=v)
 unfold partRBad partBad
 rw[checkVR_eq]
 by_cases h1:isV l [false] [v]=0
 ·obtain⟨g1,g2⟩:=h.1 h1
  rw[h1,g1,g2];rfl
 ·have e:(isV l [false] [v] != 0)=true:=by simpa using h1
  rw[e]
  cases hc:checkV l v != 0 with
  |true=>rfl
  |false=>
   cases ho:ownV l v with
   |true=>rfl
   |false=>exact absurd (h.2 ⟨by simpa using hc,ho⟩) h1
theorem partVR_eq (l:List Term.D) (v:Value.D) (i:Int):partVR l v i=partV l v i:=by
 unfold partVR partV
 rw[partRBad_eq,madeR_eq]
 cases h:partBad l v i with
 |true=>rfl
 |false=>
  obtain⟨_,_,h0,h2⟩:=partBad_false.1 h
  have:(partR v.2.2.1 i).2=0:=by
   unfold partR
   rw[decide_eq_false (Int.not_lt.2 h0),decide_eq_false (show ¬i>4 from Int.not_lt.2 (Int.le_trans h2 (by decide)))];rfl
  rw[this]
theorem g23v:GoodS Tryz.prog N23 s22:=by
 have e:s23=s22:=by
  unfold s23 s22
  congr 1
  funext x
  rw[partVR_eq]
 rw[←e];exact g23
theorem g27v:GoodS Tryz.prog N27 s19:=by
 have e:s27=s19:=by
  unfold s27 s19
  congr 1
  funext x
  rw[checkVR_eq]
 rw[←e];exact g27
def hot (n:Nat):AV:= .one (.hot n none)
theorem outG_len (h k leaf:Int): ∀(m t:Nat) (out:List (Int×Int)),(outG h k leaf m t out).length≤out.length+m*h.toNat:=by
 intro m
 induction m with
 |zero=>intro t out;simp [outG]
 |succ m ih=>
  intro t out
  refine Nat.le_trans (ih _ _) ?_
  have:=inG_len h k leaf t (h.toNat-t) (t+1) out
  rw[Nat.succ_mul]
  omega
theorem wG_len (h leaf:Int): ∀(m j:Nat) (out:List (Int×Int)),(wG h leaf m j out).length=out.length+m:=by
 intro m
 induction m with
 |zero=>intro j out;rfl
 |succ m ih=>intro j out;rw[wG,ih];simp;omega
theorem pairs_len (h k i:Int):(pairsL h k i).1.length ≤9223372036854775807:=by
 unfold pairsL
 cases hn:noPr h k i with
 |true=>exact Nat.zero_le _
 |false=>
  obtain⟨h1,h2,_⟩:=many_ok (noPr_ok hn).1
  cases k==1 with
  |true=>
   show(wG h (leafI h i).1 (h.toNat+1) 0 []).length≤_
   rw[wG_len]
   have:h.toNat≤32:=by omega
   simp;omega
  |false=>
   refine Nat.le_trans (outG_len _ _ _ _ _ _) ?_
   have:h.toNat*h.toNat≤32*32:=Nat.mul_le_mul (by omega) (by omega)
   simp;omega
theorem g314:GoodS Tryz.prog N314 s309:=by
 refine good (.cons g334 (.cons g335 (.cons g336 (.cons g337 (.cons g338 (.nil _)))))) H314 rfl (by kernel_rfl) Λ314 [(0,live314)] (oneLoop (p0:=loopK F314 0) (by kernel_rfl) loop314) [.v I,.v I,.v U,.v Subset] (by decide) [.id,.sl true I,.id] _ fun x r hw e=> ?_
 obtain⟨h,k,i,s⟩:=x
 cases e
 exact(r314 h k i s).trans (entry_ref hw.2.2.2.1 hw.2.2.2.2 hw.2.2.1 (pairs_len h k i))
theorem g316:GoodS Tryz.prog N316 s315:=by
 refine good (.cons g344 (.cons g345 (.cons g336 (.nil _)))) H316 rfl (by kernel_rfl) Λ316 live316 (twoLoops (p0:=loopK F316 0) (p1:=loopK F316 1) (by kernel_rfl) loop316a loop316b) [.v I,.v U,.v (.sl Subset)] (by decide) [] _ fun x r hw e=> ?_
 obtain⟨h,i,l⟩:=x
 cases e
 exact(r316 h i l).trans (first_ref hw.2.2.1)
theorem den_of {l:List Term.D} {v:Value.D} (h:startE l v=0): ∃sym b t0,Den sym b t0 l [] v:=by
 unfold startE at h
 cases hb:b51 l v with
 |true=>rw[hb]at h;cases h
 |false=>
  rw[hb]at h
  have hc:checkV l v=0:=h
  have hg:GoodL l:=checkL_iff.1 (checkV_zero.1 hc).1
  unfold b51 at hb
  rw[hc]at hb
  simp only[beq_self_eq_true,cond_true]at hb
  cases hs:v.1 with
  |true=>
   obtain⟨e,h0,h1⟩:=plain_sym hc hs
   obtain⟨t,ht⟩:=Int.eq_ofNat_of_zero_le h0
   rw[ht]at e h1
   have hk:((tAt l v.2.2.2.2).1==5)=false:=by
    rw[hs]at hb
    cases h2:v.2.1 with
    |true=>rw[h2]at hb;cases hb
    |false=>rw[h2]at hb;exact hb
   rw[ht]at hk
   have hlt:t<l.length:=by simpa using h1
   have hx:l[t]? =some l[t]:=List.getElem?_eq_getElem hlt
   refine⟨true,(0,0),t,hg,fun x hx=>(by cases hx),t,e, ?_⟩
   refine⟨rfl,l[t],hx, ?_⟩
   rw[tAt_get hx]at hk
   simpa using hk
  |false=>
   rcases plain_oct hc hs with⟨h2,e⟩|⟨h2,e⟩
   ·rw[h2]at hb;cases hb
   ·exact⟨false,v.2.2.1,0,hg,fun x hx=>(by cases hx),e⟩
theorem walkV_eq {l:List Term.D} {v:Value.D} {sd:List Int} (hs:startE l v=0) (h1: ∀x∈sd,0≤x∧x≤1) (h2:sd.length≤32):walkV l v sd=endW (walkL (v,l,0) sd):=by
 obtain⟨sym,b,t0,hd⟩:=den_of hs
 unfold walkV noWalk
 rw[hs,decide_eq_false (show ¬(sd.length:Int)>32 by omega),odd_01 h1,hd.start];rfl
theorem odd_bits {x:Int} (hx:IntKind.i64.has x) (h:oddB x=false):0≤x∧x≤1:=by
 unfold oddB at h
 obtain⟨b,hb⟩: ∃b,b=BitVec.ofInt 64 x:=⟨_,rfl⟩
 rw[←hb]at h
 have h0:(b&&& ~~~(BitVec.ofInt 64 1)).toNat=0:=by
  have h1:IntKind.i64.wrap ((b&&& ~~~(BitVec.ofInt 64 1)).toNat:Int)=0:=by simpa using h
  obtain⟨q,hq⟩: ∃q,q=(b&&& ~~~(BitVec.ofInt 64 1)).toNat:=⟨_,rfl⟩
  have h2:q<2^64:=by rw[hq];exact(b&&& ~~~(BitVec.ofInt 64 1)).isLt
  rw[←hq]at h1⊢
  unfold IntKind.wrap at h1
  simp [IntKind.signed,IntKind.bits]at h1
  omega
 have h1:b&&& ~~~(BitVec.ofInt 64 1)=0#64:=BitVec.eq_of_toNat_eq (by rw[h0];rfl)
 have h2:b=(b&&& ~~~(BitVec.ofInt 64 1))|||(b&&&BitVec.ofInt 64 1):=by
  apply BitVec.eq_of_getLsbD_eq
  intro i hi
  simp only[BitVec.getLsbD_or,BitVec.getLsbD_and,BitVec.getLsbD_not,hi,decide_true,Bool.true_and]
  cases b.getLsbD i<;>cases (BitVec.ofInt 64 1).getLsbD i<;>rfl
 rw[h1]at h2
 have h3:b.toNat=b.toNat%2:=by
  have:=congrArg BitVec.toNat h2
  rw[BitVec.toNat_or,BitVec.toNat_and,show(BitVec.ofInt 64 1).toNat=1 by decide,Nat.and_one_is_mod]at this
  simpa using this
 have h4:b.toNat=(x%18446744073709551616).toNat:=by rw[hb,BitVec.toNat_ofInt];rfl
 have h5: -9223372036854775808≤x:=hx.1
 have h6:x≤9223372036854775807:=hx.2
 have h7:b.toNat%2<2:=Nat.mod_lt _ (by decide)
 omega
theorem r633 (l:List Term.D) (v:Value.D):run (orc [(N27,s19)]) noL [] F633 (encA [.v (.sl Term),.v Value] (l,v)) []=bif g379' l v then some (.one (.bool (openV l v)))else none:=by kernel_rfl
def s633:Sp:= .fn [.v (.sl Term),.v Value] fun x=>(true,.one (.bool (openV x.1 x.2)))
theorem g633:GoodS Tryz.prog N633 s633:=by
 refine good (.cons g27v (.nil _)) H633 rfl (by kernel_rfl) noL [] (noLoops (by kernel_rfl)) [.v (.sl Term),.v Value] (by decide) [] _ fun x r hw e=> ?_
 obtain⟨l,v⟩:=x
 cases e
 rw[r633,g379'_true];rfl
def Γ615:Orc:=orc [(N633,s633),(N23,s22)]
theorem Γ615ok:OrcOk Tryz.prog Γ615:= .cons g633 (.cons g23v (.nil _))
abbrev live615:List (Nat×List (Nat×Dir)):=[(0,[(0,.keep),(2,.keep),(4,.keep),(6,.keep),(7,.keep),(8,.keep),(26,.keep),(27,.keep),(28,.keep)]),(2,[(0,.keep),(4,.keep),(6,.keep),(42,.keep),(43,.keep),(44,.keep),(41,.keep)])]
def vs615 (l:List Term.D) (v:Value.D) (e:Int) (sd:List Int) (n i:Int):List AV:=
 [.one (.sl false Term none l),.one (.sl false I none sd),.own (enc Value false v),.own (enc Value false zeroV),.one .nils,.one (.int .i64 e),.one (.sl false I none sd),.one (.int .i64 n),.one (.int .i64 i)]
def vt615 (a:AV) (v:Value.D) (m:List Term.D) (sd:List Int) (n i:Int):List AV:=
 [a,.own (enc Value false v),.own (enc Value false zeroV),.one (.sl false I none sd),.one (.int .i64 n),.one (.int .i64 i),.arr true Term m]
def ah:AV:= .one (.hot 41 none)
def aS (l:List Term.D):AV:= .one (.sl true Term none l)
noncomputable abbrev lp615 (Λ:Lam AV) (K:AE→List AV→Option AV) (fuel:Nat) (vs:List AV):Option AV:=loopN (aexec tb Γ615 Λ ⟨65,0,live615⟩ (loopK F615 0).2 0) 65 0 (Lay.get ⟨65,0,live615⟩ 0) K fuel vs
noncomputable abbrev lq615 (Λ:Lam AV) (K:AE→List AV→Option AV) (fuel:Nat) (vs:List AV):Option AV:=loopN (aexec tb Γ615 Λ ⟨65,0,live615⟩ (loopK F615 1).2 2) 65 0 (Lay.get ⟨65,0,live615⟩ 2) K fuel vs
def badI (x:Int):Bool:=bif x != 0 then x != 1 else false
theorem step615 (l:List Term.D) (v:Value.D) (e:Int) (sd:List Int) (n i:Int) (Λ:Lam AV) (K:AE→List AV→Option AV) (fuel:Nat):lp615 Λ K (fuel+1) (vs615 l v e sd n i)=
 bif decide (i<n)then bif inB i sd.length then bif badI (iAt sd i)then K .ret (vs615 l v 1 sd n i)else lp615 Λ K fuel (vs615 l v e sd n (IntKind.i64.wrap (i+1)))else none else K (.exit 0) (vs615 l v e sd n i):=by kernel_rfl
theorem steq615h (v:Value.D) (m:List Term.D) (sd:List Int) (n i:Int) (Λ:Lam AV) (K:AE→List AV→Option AV) (fuel:Nat):lq615 Λ K (fuel+1) (vt615 ah v m sd n i)=
 bif decide (i<n)then bif inB i sd.length then bif (partV m v (iAt sd i)).2.2 != 0 then K .ret (vt615 ah v m sd n i)else lq615 Λ K fuel (vt615 (aS (partV m v (iAt sd i)).2.1) (partV m v (iAt sd i)).1 m sd n (IntKind.i64.wrap (i+1)))else none else K (.exit 2) (vt615 ah v m sd n i):=by kernel_rfl
theorem steq615s (l:List Term.D) (v:Value.D) (m:List Term.D) (sd:List Int) (n i:Int) (Λ:Lam AV) (K:AE→List AV→Option AV) (fuel:Nat):lq615 Λ K (fuel+1) (vt615 (aS l) v m sd n i)=
 bif decide (i<n)then bif inB i sd.length then bif (partV l v (iAt sd i)).2.2 != 0 then K .ret (vt615 (aS l) v m sd n i)else lq615 Λ K fuel (vt615 (aS (partV l v (iAt sd i)).2.1) (partV l v (iAt sd i)).1 m sd n (IntKind.i64.wrap (i+1)))else none else K (.exit 2) (vt615 (aS l) v m sd n i):=by kernel_rfl
def Λ615:Lam AV:=fun cur vs K=>
 match cur,vs with
 |0,[.one (.sl false (.pair (.int .i64) (.pair (.int .i64) (.int .i64))) none l),.one (.sl false (.int .i64) none sd),.own [.bool v1,.bool v2,.int .u64 v3,.int .u64 v4,.int .u64 v5,.int .u64 v6,.int .u64 v7,.int .u64 v8,.int .i64 v9],
   .own [.bool false,.bool false,.int .u64 0,.int .u64 0,.int .u64 0,.int .u64 0,.int .u64 0,.int .u64 0,.int .i64 0],.one .nils,.one (.int .i64 e),.one (.sl false (.int .i64) none sd'),.one (.int .i64 n),.one (.int .i64 0)]=>
  bif decide (n=sd.length)&&decide (n≤9223372036854775807)&&decide (sd'=sd)then
   allK (fun j=>K .ret (vs615 l (v1,v2,(v3,v4),((v5,v6),(v7,v8)),v9) 1 sd n j)) (K (.exit 0) (vs615 l (v1,v2,(v3,v4),((v5,v6),(v7,v8)),v9) e sd n n)) (fun j=>badI (iAt sd j)) n.toNat 0
  else none
 |2,[.one (.hot 41 none),.own [.bool v1,.bool v2,.int .u64 v3,.int .u64 v4,.int .u64 v5,.int .u64 v6,.int .u64 v7,.int .u64 v8,.int .i64 v9],
   .own [.bool false,.bool false,.int .u64 0,.int .u64 0,.int .u64 0,.int .u64 0,.int .u64 0,.int .u64 0,.int .i64 0],.one (.sl false (.int .i64) none sd),.one (.int .i64 n),.one (.int .i64 0),.arr true (.pair (.int .i64) (.pair (.int .i64) (.int .i64))) m]=>
  bif decide (n=sd.length)&&decide (n≤9223372036854775807)&&decide ((walkL ((v1,v2,(v3,v4),((v5,v6),(v7,v8)),v9),m,0) sd).2.2 =0)then
   bif n==0 then K (.exit 2) (vt615 ah (walkL ((v1,v2,(v3,v4),((v5,v6),(v7,v8)),v9),m,0) sd).1 m sd n n)
   else K (.exit 2) (vt615 (aS (walkL ((v1,v2,(v3,v4),((v5,v6),(v7,v8)),v9),m,0) sd).2.1) (walkL ((v1,v2,(v3,v4),((v5,v6),(v7,v8)),v9),m,0) sd).1 m sd n n)
  else none
 |_,_=>none
theorem walk_stay: ∀(sd:List Int) {x:WS},x.2.2 ≠0→walkL x sd=x:=by
 intro sd
 induction sd with
 |nil=>intro x _;rfl
 |cons i sd ih=>intro x h;rw[walkL,stepW_stay h];exact ih h
theorem walk_zero {x:WS} {sd:List Int} (h:(walkL x sd).2.2 =0):x.2.2 =0:=by
 rcases Classical.em (x.2.2 =0)with h0|h0
 ·exact h0
 ·rw[walk_stay sd h0]at h;exact h
theorem loop615a:LoopP tb Γ615 Λ615 ⟨65,0,live615⟩ (loopK F615 0):=by
 intro vs K out h
 have hcur:(loopK F615 0).1=0:=by kernel_rfl
 rw[hcur]at h⊢
 unfold Λ615 at h
 split at h
 ·rename_i l sd v1 v2 v3 v4 v5 v6 v7 v8 v9 e sd' n _
  cases hc:(decide (n=sd.length)&&decide (n≤9223372036854775807)&&decide (sd'=sd))with
  |false=>rw[hc]at h;cases h
  |true=>
   rw[hc]at h
   simp only[cond_true]at h
   simp only[Bool.and_eq_true,decide_eq_true_eq]at hc
   obtain⟨⟨rfl,hmax⟩,rfl⟩:=hc
   obtain⟨v,hv⟩: ∃v:Value.D,v=(v1,v2,(v3,v4),((v5,v6),(v7,v8)),v9):=⟨_,rfl⟩
   rw[←hv]at h
   have hg: ∀e i,[.one (.sl false Term none l),.one (.sl false I none sd'),.own (enc Value false (v1,v2,(v3,v4),((v5,v6),(v7,v8)),v9)),.own (enc Value false zeroV),.one .nils,.one (.int .i64 e),.one (.sl false I none sd'),.one (.int .i64 (sd'.length:Int)),.one (.int .i64 i)]=vs615 l v e sd' sd'.length i:=fun e i=>by rw[hv];rfl
   refine(fun q: ∃fuel,lp615 Λ615 K fuel (vs615 l v e sd' sd'.length 0)=some out=>by rw[←hg]at q;exact q) ?_
   refine upLoop (α:=Unit) (n:=sd'.length) (F:=fun fuel _ j=>lp615 Λ615 K fuel (vs615 l v e sd' sd'.length j))
    (G:=fun j _=>allK (fun j=>K .ret (vs615 l v 1 sd' sd'.length j)) (K (.exit 0) (vs615 l v e sd' sd'.length sd'.length)) (fun j=>badI (iAt sd' j)) (sd'.length-j) j)
    (fun fuel _=> ?_) (fun _ j hj=> ?_) sd'.length 0 () out (by omega) h
   ·simp only[step615,nlt_dec,cond_false,Nat.sub_self,allK]
   ·have hm:sd'.length-j=(sd'.length-(j+1))+1:=by omega
    have hstep: ∀fuel,lp615 Λ615 K (fuel+1) (vs615 l v e sd' sd'.length j)=bif badI (iAt sd' j)then K .ret (vs615 l v 1 sd' sd'.length j)else lp615 Λ615 K fuel (vs615 l v e sd' sd'.length ((j+1:Nat):Int)):=by
     intro fuel
     rw[step615,lt_dec hj,inB_lt hj,wrap64 (n:=(j:Int)+1) (by omega) (by omega)];rfl
    cases hx:badI (iAt sd' j)with
    |true=>right;intro fuel;rw[hstep,hx];simp only[hm,allK,hx,cond_true]
    |false=>
     left;refine⟨(),fun fuel=> ?_, ?_⟩
     ·rw[hstep,hx];rfl
     ·simp only[hm,allK,hx,cond_false]
 ·exact absurd (show(0:Nat)=2 by assumption) (by decide)
 ·cases h
theorem loop615b:LoopP tb Γ615 Λ615 ⟨65,0,live615⟩ (loopK F615 1):=by
 intro vs K out h
 have hcur:(loopK F615 1).1=2:=by kernel_rfl
 rw[hcur]at h⊢
 unfold Λ615 at h
 split at h
 ·exact absurd (show(2:Nat)=0 by assumption) (by decide)
 ·rename_i v1 v2 v3 v4 v5 v6 v7 v8 v9 sd n m _
  obtain⟨v,hv⟩: ∃v:Value.D,v=(v1,v2,(v3,v4),((v5,v6),(v7,v8)),v9):=⟨_,rfl⟩
  rw[←hv]at h
  cases hc:(decide (n=sd.length)&&decide (n≤9223372036854775807)&&decide ((walkL (v,m,0) sd).2.2 =0))with
  |false=>rw[hc]at h;cases h
  |true=>
   rw[hc]at h
   simp only[cond_true]at h
   simp only[Bool.and_eq_true,decide_eq_true_eq]at hc
   obtain⟨⟨rfl,hmax⟩,hz⟩:=hc
   have hg:[.one (.hot 41 none),.own (enc Value false (v1,v2,(v3,v4),((v5,v6),(v7,v8)),v9)),.own (enc Value false zeroV),.one (.sl false I none sd),.one (.int .i64 (sd.length:Int)),.one (.int .i64 0),.arr true Term m]=vt615 ah v m sd sd.length 0:=by rw[hv];rfl
   refine(fun q: ∃fuel,lq615 Λ615 K fuel (vt615 ah v m sd sd.length 0)=some out=>by rw[←hg]at q;exact q) ?_
   have main: ∀(k j:Nat) (x:List Term.D×Value.D),j+k=sd.length→(walkL (x.2,x.1,0) (sd.drop j)).2.2 =0→K (.exit 2) (vt615 (aS (walkL (x.2,x.1,0) (sd.drop j)).2.1) (walkL (x.2,x.1,0) (sd.drop j)).1 m sd sd.length sd.length)=some out→
    ∃fuel,lq615 Λ615 K fuel (vt615 (aS x.1) x.2 m sd sd.length j)=some out:=by
    intro k
    induction k with
    |zero=>
     intro j x hj he hk
     obtain rfl:j=sd.length:=by omega
     rw[List.drop_length]at hk
     exact⟨1,by rw[steq615s,nlt_dec];exact hk⟩
    |succ k ih=>
     intro j x hj he hk
     have hjl:j<sd.length:=by omega
     rw[walk_drop hjl]at he hk
     have hp:(partV x.1 x.2 (iAt sd j)).2.2 =0:=walk_zero he
     have hs:stepW (x.2,x.1,0) (iAt sd j)=((partV x.1 x.2 (iAt sd j)).1,(partV x.1 x.2 (iAt sd j)).2.1,0):=by
      show partV x.1 x.2 (iAt sd j)=_
      rw[←hp]
     rw[hs]at he hk
     obtain⟨fuel,hf⟩:=ih (j+1) ((partV x.1 x.2 (iAt sd j)).2.1,(partV x.1 x.2 (iAt sd j)).1) (by omega) he hk
     refine⟨fuel+1, ?_⟩
     rw[steq615s,lt_dec hjl,inB_lt hjl,hp,wrap64 (n:=(j:Int)+1) (by omega) (by omega)]
     exact hf
   cases sd with
   |nil=>
    refine⟨1, ?_⟩
    rw[steq615h,show decide ((0:Int)<(([]:List Int).length:Int))=false from rfl]
    exact h
   |cons i sd=>
    have hjl:0<(i::sd).length:=by simp
    have he:=hz
    have hk:K (.exit 2) (vt615 (aS (walkL (v,m,0) (i::sd)).2.1) (walkL (v,m,0) (i::sd)).1 m (i::sd) (i::sd).length (i::sd).length)=some out:=by
     rw[show((((i::sd).length:Nat):Int)==0)=false by simp;omega]at h
     exact h
    have w0:=walk_drop (x:=(v,m,0)) hjl
    rw[List.drop_zero]at w0
    rw[w0]at he hk
    have hp:(partV m v (iAt (i::sd) (0:Nat))).2.2 =0:=walk_zero he
    have hs:stepW (v,m,0) (iAt (i::sd) (0:Nat))=((partV m v (iAt (i::sd) (0:Nat))).1,(partV m v (iAt (i::sd) (0:Nat))).2.1,0):=by
     show partV m v (iAt (i::sd) (0:Nat))=_
     rw[←hp]
    rw[hs]at he hk
    obtain⟨fuel,hf⟩:=main sd.length 1 ((partV m v (iAt (i::sd) (0:Nat))).2.1,(partV m v (iAt (i::sd) (0:Nat))).1) (by simp;omega) he hk
    refine⟨fuel+1, ?_⟩
    have l0:=lt_dec hjl
    have l1:=inB_lt hjl
    rw[steq615h,show decide ((0:Int)<(((i::sd).length:Nat):Int))=true from l0,show inB (0:Int) (i::sd).length=true from l1,show(partV m v (iAt (i::sd) 0)).2.2 =0 from hp]
    exact hf
 ·cases h
def E615 (l:List Term.D) (v:Value.D) (sd:List Int):Option AV:=
 bif small24 l.length then
  bif decide ((sd.length:Int)=sd.length)&&decide ((sd.length:Int)≤9223372036854775807)&&decide ((walkL (v,l,0) sd).2.2 =0)then
   bif (sd.length:Int)==0 then some (vle ((walkL (v,l,0) sd).1,l,0))else some (vle ((walkL (v,l,0) sd).1,(walkL (v,l,0) sd).2.1,0))
  else none
 else none
theorem r615 (l:List Term.D) (v:Value.D) (sd:List Int):run Γ615 Λ615 live615 F615 (encA W3 (l,v,sd)) wVle=
 bif bif !openV l v then true else decide ((sd.length:Int)>32)then some (vle (zeroV,[],1))else
 bif decide ((sd.length:Int)=sd.length)&&decide ((sd.length:Int)≤9223372036854775807)&&decide (sd=sd)then
  allK (fun _=>some (vle (zeroV,[],1))) (E615 l v sd) (fun j=>badI (iAt sd j)) (sd.length:Int).toNat 0
 else none:=by kernel_rfl
theorem open_start (l:List Term.D) (v:Value.D):openV l v=(startE l v==0):=by
 unfold openV startE b51
 rcases checkV_one l v with h|h<;>rw[h]
 ·cases v.2.1 with
  |true=>rfl
  |false=>
   cases v.1 with
   |false=>rfl
   |true=>
    simp only[beq_self_eq_true,cond_true,Bool.not_false,Bool.not_true,cond_false]
    cases h5:(tAt l v.2.2.2.2).1==5 with
    |true=>simp only[bne,h5];rfl
    |false=>simp only[bne,h5];rfl
 ·rfl
theorem bad_odd {x:Int} (hx:IntKind.i64.has x):badI x=oddB x:=by
 cases ho:oddB x with
 |false=>
  obtain⟨h1,h2⟩:=odd_bits hx ho
  have:x=0∨x=1:=by omega
  rcases this with rfl|rfl<;>decide
 |true=>
  unfold badI
  cases h0:x != 0 with
  |false=>
   have:x=0:=by simpa using h0
   subst this
   rw[show oddB 0=false by decide]at ho;cases ho
  |true=>
   cases h1:x != 1 with
   |true=>rfl
   |false=>
    have:x=1:=by simpa using h1
    subst this
    rw[show oddB 1=false by decide]at ho;cases ho
theorem anyK_list {f:Int→Bool} (sd:List Int): ∀(m j:Nat),j+m=sd.length→anyK (fun j=>f (iAt sd j)) m j=(sd.drop j).any f:=by
 intro m
 induction m with
 |zero=>intro j h;rw[List.drop_eq_nil_of_le (by omega)];rfl
 |succ m ih=>
  intro j h
  rw[anyK,ih (j+1) (by omega),iAt_cons (show j<sd.length by omega),List.any_cons]
  cases f (iAt sd j)<;>rfl
def small65 (n:Nat):Bool:=decide (n≤65000)
def s615:Sp:= .fn W3 fun x=>(small65 x.1.length,vle (walkV x.1 x.2.1 x.2.2))
theorem has_of {sd:List Int} (hw:WF (.sl I) sd): ∀x∈sd,IntKind.i64.has x:=hw.2
theorem g615:GoodS Tryz.prog N615 s615:=by
 refine good Γ615ok H615 rfl (by kernel_rfl) Λ615 live615 (twoLoops (p0:=loopK F615 0) (p1:=loopK F615 1) (by kernel_rfl) loop615a loop615b) W3 (by decide) wVle _ fun x r hw e=> ?_
 obtain⟨l,v,sd⟩:=x
 have e1:=congrArg Prod.fst e
 have e2:=congrArg Prod.snd e
 simp only at e1 e2
 have hl:l.length≤65000:=of_decide_eq_true e1
 have hsd: ∀x∈sd,IntKind.i64.has x:=has_of hw.2.2
 refine(r615 l v sd).trans ?_
 rw[←e2,open_start]
 have hb:(fun j:Nat=>badI (iAt sd j))=fun j:Nat=>badI (iAt sd j):=rfl
 cases h0:startE l v==0 with
 |false=>
  unfold walkV noWalk
  rw[show(startE l v != 0)=true by rw[bne,h0];rfl];rfl
 |true=>
  have hs:startE l v=0:=eq_of_beq h0
  cases h32:decide ((sd.length:Int)>32)with
  |true=>
   unfold walkV noWalk
   rw[h32,hs];rfl
  |false=>
   have h32':sd.length≤32:=by simp at h32;omega
   rw[show(decide ((sd.length:Int)=sd.length)&&decide ((sd.length:Int)≤9223372036854775807)&&decide (sd=sd))=true by rw[decide_eq_true (show sd=sd from rfl),Bool.and_true];exact lenMax (by omega)]
   simp only[Bool.not_true,cond_true,cond_false]
   rw[allK_two,Int.toNat_natCast,anyK_list sd sd.length 0 (by omega),List.drop_zero]
   cases ho:sd.any badI with
   |true=>
    have:sd.any oddB=true:=by
     obtain⟨x,hx,hb⟩:=List.any_eq_true.1 ho
     exact List.any_eq_true.2 ⟨x,hx,by rw[←bad_odd (hsd x hx)];exact hb⟩
    unfold walkV noWalk
    rw[h32,hs,this];rfl
   |false=>
    have h01: ∀x∈sd,0≤x∧x≤1:=fun x hx=>by
     have:=List.any_eq_false.1 ho x hx
     rw[bad_odd (hsd x hx)]at this
     exact odd_bits (hsd x hx) (by simpa using this)
    obtain⟨sym,b,t0,hd⟩:=den_of hs
    obtain⟨v',r',a1,a2,a3⟩:=hd.walk sd (fun x hx=>⟨(h01 x hx).1,Int.le_trans (h01 x hx).2 (by decide)⟩) (by omega)
    rw[walkV_eq hs h01 h32']
    unfold E615
    rw[small_of (by omega),a1]
    rw[show(decide ((sd.length:Int)=sd.length)&&decide ((sd.length:Int)≤9223372036854775807)&&decide ((v',l++r',(0:Int)).2.2 =0))=true by rw[decide_eq_true (show(v',l++r',(0:Int)).2.2 =0 from rfl),Bool.and_true];exact lenMax (by omega)]
    cases hn:(sd.length:Int)==0 with
    |false=>rfl
    |true=>
     have hn':sd.length=0:=by have:=eq_of_beq hn;omega
     have hr:r'=[]:=List.eq_nil_of_length_eq_zero (by omega)
     subst hr
     rw[List.append_nil];rfl
def Γ713:Orc:=orc [(N334,s310),(N51,s51),(N633,s633)]
noncomputable abbrev lp713 (Λ:Lam AV) (K:AE→List AV→Option AV) (fuel:Nat) (vs:List AV):Option AV:=loopN (aexec tb Γ713 Λ ⟨69,0,[(0,live349)]⟩ (loopK F713 0).2 0) 69 0 live349 K fuel vs
def Γ706:Orc:=orc [(N713,s349),(N314,s309),(N615,s615),(N23,s22)]
theorem r706 (l:List Term.D) (h k i:Int) (es:List Entry.D) (s:Subset.D):run Γ706 noL [] F706 (encA K6 (l,h,k,i,es,s)) wVle=
 bif checkS l h k i es != 0 then some (vle (zeroV,[],1))else bif (entryI h k i s).2.2 != 0 then some (vle (zeroV,[],(entryI h k i s).2.2))else
 bif inB (entryI h k i s).1 es.length then bif small65 l.length then fin319 (keyT l h k i es s) s else none else none:=by kernel_rfl
theorem step713 (l:List Term.D) (e0:List Entry.D) (r:Int) (ps:List Subset.D) (es:List Entry.D) (n i:Int) (Λ:Lam AV) (fuel:Nat) (K:AE→List AV→Option AV):lp713 Λ K (fuel+1) (vs349 l e0 r ps es n i)=
 bif decide (i<n)then bif inB i es.length then bif inB i ps.length then
  bif !(sameS (eAt es i).1 (sAt ps i))then K .ret (vs349 l e0 1 ps es n i)else bif !openV l (eAt es i).2 then K .ret (vs349 l e0 1 ps es n i)else
  bif inB 0 e0.length then bif !((eAt es i).2.1 ==(eAt e0 0).2.1)then K .ret (vs349 l e0 1 ps es n i)else lp713 Λ K fuel (vs349 l e0 r ps es n (IntKind.i64.wrap (i+1)))else none
 else none else none else K (.exit 0) (vs349 l e0 r ps es n i):=by kernel_rfl
theorem loop713:LoopP tb Γ713 Λ349 ⟨69,0,[(0,live349)]⟩ (loopK F713 0):=by
 intro vs K out e
 have hcur:(loopK F713 0).1=0:=by kernel_rfl
 rw[hcur]at e⊢
 unfold Λ349 at e
 split at e
 ·rename_i l e0 r ps es n _
  cases hc:(decide (n=es.length)&&decide (es.length=ps.length)&&decide (n≤9223372036854775807)&&decide (e0.length=es.length))with
  |false=>rw[hc]at e;cases e
  |true=>
   rw[hc]at e
   simp only[cond_true]at e
   simp only[Bool.and_eq_true,decide_eq_true_eq]at hc
   obtain⟨⟨⟨rfl,hl⟩,hmax⟩,he0⟩:=hc
   refine upLoop (α:=Unit) (n:=es.length) (F:=fun fuel _ j=>lp713 Λ349 K fuel (vs349 l e0 r ps es es.length j))
    (G:=fun j _=>allK (fun j=>K .ret (vs349 l e0 1 ps es es.length j)) (K (.exit 0) (vs349 l e0 r ps es es.length es.length)) (fun j=>badE l e0 es ps j) (es.length-j) j)
    (fun fuel _=> ?_) (fun _ j hj=> ?_) es.length 0 () out (by omega) e
   ·simp only[step713,nlt_dec,cond_false,Nat.sub_self,allK]
   ·have hm:es.length-j=(es.length-(j+1))+1:=by omega
    have h0:inB 0 e0.length=true:=inB_lt (j:=0) (by omega)
    have hstep: ∀fuel,lp713 Λ349 K (fuel+1) (vs349 l e0 r ps es es.length j)=bif badE l e0 es ps j then K .ret (vs349 l e0 1 ps es es.length j)else lp713 Λ349 K fuel (vs349 l e0 r ps es es.length ((j+1:Nat):Int)):=by
     intro fuel
     rw[step713,lt_dec hj,inB_lt hj,inB_lt (show j<ps.length by omega),h0,wrap64 (n:=(j:Int)+1) (by omega) (by omega)]
     unfold badE
     cases sameS (eAt es (j:Int)).1 (sAt ps (j:Int))<;>cases openV l (eAt es (j:Int)).2<;>rfl
    cases hx:badE l e0 es ps j with
    |true=>right;intro fuel;rw[hstep,hx];simp only[hm,allK,hx,cond_true]
    |false=>
     left;refine⟨(),fun fuel=> ?_, ?_⟩
     ·rw[hstep,hx];rfl
     ·simp only[hm,allK,hx,cond_false]
 ·cases e
def noCkR (l:List Term.D) (h k i:Int) (es:List Entry.D):Bool:=bif bif (pairsL h k i).2 != 0 then true else checkR l != 0 then true else((pairsL h k i).1.length :Int) != es.length
theorem r713 (l:List Term.D) (h k i:Int) (es:List Entry.D):run Γ713 Λ349 [(0,live349)] F713 (encA C5 (l,h,k,i,es)) []=
 bif noCkR l h k i es then some (.one (.int .i64 1))else
 bif decide ((es.length:Int)=es.length)&&decide (es.length=(pairsL h k i).1.length)&&decide ((es.length:Int)≤9223372036854775807)&&decide (es.length=es.length)then
  allK (fun _=>some (.one (.int .i64 1))) (some (.one (.int .i64 0))) (fun j=>badE l es es (pairsL h k i).1 j) (es.length:Int).toNat 0 else none:=by kernel_rfl
theorem noCkR_eq (l:List Term.D) (h k i:Int) (es:List Entry.D):noCkR l h k i es=noCk l h k i es:=by
 unfold noCkR noCk
 rw[checkR_eq]
 have:(((pairsL h k i).1.length :Int) != (es.length:Int))=((es.length:Int) != ((pairsL h k i).1.length :Int)):=by
  rw[Bool.eq_iff_iff];simp only[bne_iff_ne];exact ne_comm
 rw[this]
theorem g713:GoodS Tryz.prog N713 s349:=by
 refine good (.cons g334 (.cons g51 (.cons g633 (.nil _)))) H713 rfl (by kernel_rfl) Λ349 [(0,live349)] (oneLoop (p0:=loopK F713 0) (by kernel_rfl) loop713) C5 (by decide) [] _ fun x r hw e=> ?_
 obtain⟨l,h,k,i,es⟩:=x
 cases e
 refine(r713 l h k i es).trans ?_
 show _=some (AV.one (SV.int .i64 (checkS l h k i es)))
 rw[noCkR_eq]
 unfold checkS
 cases hn:noCk l h k i es with
 |true=>rfl
 |false=>
  have hl:es.length=(pairsL h k i).1.length :=by
   unfold noCk at hn
   cases h1:(pairsL h k i).2 != 0 with
   |true=>rw[h1]at hn;cases hn
   |false=>
    cases h2:checkL l != 0 with
    |true=>rw[h1,h2]at hn;cases hn
    |false=>
     rw[h1,h2]at hn
     simp only[cond_false]at hn
     have:=(show(((es.length:Int) != ((pairsL h k i).1.length :Int))=false)from hn)
     have:=(bne_eq_false_iff_eq.1 this)
     exact_mod_cast this
  have hmx:es.length≤9223372036854775807:=hw.2.2.2.2.1
  have hg:(decide ((es.length:Int)=es.length)&&decide (es.length=(pairsL h k i).1.length)&&decide ((es.length:Int)≤9223372036854775807)&&decide (es.length=es.length))=true:=by
   rw[decide_eq_true (show(es.length:Int)=es.length from rfl),decide_eq_true hl,decide_eq_true (show(es.length:Int)≤9223372036854775807 by omega),decide_eq_true (show es.length=es.length from rfl)];rfl
  rw[hg,allK_two,Int.toNat_natCast]
  simp only[cond_true,cond_false]
  cases anyK (fun j=>badE l es es (pairsL h k i).1 j) es.length 0<;>rfl
theorem entry_inB {l:List Term.D} {h k i:Int} {es:List Entry.D} {s:Subset.D} (hc:checkS l h k i es=0) (he:(entryI h k i s).2.2 =0):inB (entryI h k i s).1 es.length=true:=by
 obtain⟨c1,_⟩:=checkS_len hc
 obtain⟨c2,c3⟩:=entry_in he
 unfold inB
 rw[decide_eq_true c2,decide_eq_true (by rw[c1];exact c3)];rfl
theorem checkS_one {l:List Term.D} {h k i:Int} {es:List Entry.D} (hc:(checkS l h k i es != 0)=true):checkS l h k i es=1:=by
 unfold checkS at hc⊢
 cases hn:noCk l h k i es with
 |true=>rfl
 |false=>
  rw[hn]at hc
  cases ha:anyK (fun j=>badE l es es (pairsL h k i).1 j) es.length 0 with
  |true=>rfl
  |false=>rw[ha]at hc;cases hc
def s706:Sp:= .fn K6 fun x=>(decide (x.1.length ≤65000),vle (keyR x.1 x.2.1 x.2.2.1 x.2.2.2.1 x.2.2.2.2.1 x.2.2.2.2.2))
theorem g706:GoodS Tryz.prog N706 s706:=by
 refine good (.cons g713 (.cons g314 (.cons g615 (.cons g23v (.nil _))))) H706 rfl (by kernel_rfl) noL [] (noLoops (by kernel_rfl)) K6 (by decide) wVle _ fun x r hw e=> ?_
 obtain⟨l,h,k,i,es,s⟩:=x
 have e1:=congrArg Prod.fst e
 have e2:=congrArg Prod.snd e
 simp only at e1 e2
 refine(r706 l h k i es s).trans ?_
 rw[show small65 l.length=true from e1,←e2]
 unfold keyR
 cases hc:checkS l h k i es != 0 with
 |true=>rw[checkS_one hc];rfl
 |false=>
  cases he:(entryI h k i s).2.2 != 0 with
  |true=>rfl
  |false=>
   rw[entry_inB (l:=l) (by simpa using hc) (by simpa using he)]
   unfold fin319
   cases (bif (keyT l h k i es s).2.2 != 0 then true else s.2==0)<;>rfl
def Γ831:Orc:=orc [(N316,s315),(N706,s706),(N25,s25)]
abbrev live831:List (Nat×Dir):=[(0,.keep),(1,.keep),(2,.keep),(3,.keep),(4,.keep),(5,.keep),(12,.keep),(13,.keep),(14,.keep),(15,.arr Subset),(22,.keep),(23,.keep),(24,.keep)]
def vs831 (l:List Term.D) (h k i:Int) (es:List Entry.D) (qs ps:List Part.D) (out:List Subset.D) (n j:Int):List AV:=
 [.one (.sl false Term none l),.one (.int .i64 h),.one (.int .i64 k),.one (.int .u64 i),.one (.sl false Entry none es),.one (.sl false Part none qs),.own [.bool false,.bool false,.int .u64 0,.int .u64 0,.int .u64 0,.int .u64 0,.int .u64 0,.int .u64 0,.int .i64 0],.one .nils,.one (.int .i64 0),.arr true Subset out,.one (.sl false Part none ps),.one (.int .i64 n),.one (.int .i64 j)]
noncomputable abbrev lo831 (Λ:Lam AV) (K:AE→List AV→Option AV) (fuel:Nat) (vs:List AV):Option AV:=loopN (aexec tb Γ831 Λ ⟨81,0,[(0,live831)]⟩ (loop1 F831).2 0) 81 0 live831 K fuel vs
theorem step831 (l:List Term.D) (h k i:Int) (es:List Entry.D) (qs ps:List Part.D) (out:List Subset.D) (n j:Int) (Λ:Lam AV) (K:AE→List AV→Option AV) (fuel:Nat):lo831 Λ K (fuel+1) (vs831 l h k i es qs ps out n j)=
 bif decide (j<n)then bif inB j ps.length then bif decide ((out.length+1)*16≤140737488355328)then lo831 Λ K fuel (vs831 l h k i es qs ps (out++[(pAt ps j).1]) n (IntKind.i64.wrap (j+1)))else none else none else K (.exit 0) (vs831 l h k i es qs ps out n j):=by kernel_rfl
def g831 (ps:List Part.D) (n:Int):Bool:=decide (n=ps.length)&&decide (ps.length≤1000000)
def Λ831:Lam AV:=fun _ vs K=>
 match vs with
 |[.one (.sl false (.pair (.int .i64) (.pair (.int .i64) (.int .i64))) none l),.one (.int .i64 h),.one (.int .i64 k),.one (.int .u64 i),.one (.sl false (.pair (.pair (.int .u64) (.int .u64)) (.pair .bool (.pair .bool (.pair (.pair (.int .u64) (.int .u64)) (.pair (.pair (.pair (.int .u64) (.int .u64)) (.pair (.int .u64) (.int .u64))) (.int .i64)))))) none es),.one (.sl false (.pair (.pair (.int .u64) (.int .u64)) (.pair .bool (.pair .bool (.pair (.pair (.int .u64) (.int .u64)) (.pair (.pair (.pair (.int .u64) (.int .u64)) (.pair (.int .u64) (.int .u64))) (.int .i64)))))) none qs),.own [.bool false,.bool false,.int .u64 0,.int .u64 0,.int .u64 0,.int .u64 0,.int .u64 0,.int .u64 0,.int .i64 0],.one .nils,.one (.int .i64 0),.arr true (.pair (.int .u64) (.int .u64)) [],.one (.sl false (.pair (.pair (.int .u64) (.int .u64)) (.pair .bool (.pair .bool (.pair (.pair (.int .u64) (.int .u64)) (.pair (.pair (.pair (.int .u64) (.int .u64)) (.pair (.int .u64) (.int .u64))) (.int .i64)))))) none ps),.one (.int .i64 n),.one (.int .i64 0)]=>
  bif g831 ps n then K (.exit 0) (vs831 l h k i es qs ps (fstS ps) n n)else none
 |_=>none
theorem loop831:LoopP tb Γ831 Λ831 ⟨81,0,[(0,live831)]⟩ (loop1 F831):=by
 intro vs K out e
 have hcur:(loop1 F831).1=0:=by kernel_rfl
 rw[hcur]at e⊢
 unfold Λ831 at e
 split at e
 ·rename_i l h k i es qs ps n
  cases hc:g831 ps n with
  |false=>rw[hc]at e;cases e
  |true=>
   rw[hc]at e
   simp only[cond_true]at e
   unfold g831 at hc
   simp only[Bool.and_eq_true,decide_eq_true_eq]at hc
   obtain⟨rfl,hmax⟩:=hc
   have key: ∀(q j:Nat),j+q=ps.length→ ∃fuel,lo831 Λ831 K fuel (vs831 l h k i es qs ps ((fstS ps).take j) ps.length j)=some out:=by
    have hfl:(fstS ps).length=ps.length:=by simp [fstS]
    intro q
    induction q with
    |zero=>
     intro j hj
     obtain rfl:j=ps.length:=by omega
     refine⟨1, ?_⟩
     rw[step831,nlt_dec,List.take_of_length_le (by omega)]
     exact e
    |succ q ih=>
     intro j hj
     obtain⟨fuel,hf⟩:=ih (j+1) (by omega)
     have hlt:j<ps.length:=by omega
     have hl:((fstS ps).take j).length=j:=by rw[List.length_take];omega
     have hn:(fstS ps).take j++[(pAt ps (j:Int)).1]=(fstS ps).take (j+1):=by
      rw[List.take_succ_eq_append_getElem (show j<(fstS ps).length by omega)]
      simp [fstS,pAt,hlt]
     refine⟨fuel+1, ?_⟩
     rw[step831,lt_dec hlt,inB_lt hlt,hl,decide_eq_true (show(j+1)*16≤140737488355328 by omega),hn,wrap64 (n:=(j:Int)+1) (by omega) (by omega)]
     exact hf
   exact key ps.length 0 (by omega)
 ·cases e
theorem isV_two_one (l:List Term.D) (a b:Bool) (v w:Value.D):isV l [a,b] [v,w]=0∨isV l [a,b] [v,w]=1:=by
 unfold isV
 rw[isGo_two]
 rcases checkV_one l v with h1|h1<;>rcases checkV_one l w with h2|h2<;>rw[h1]<;>try rw[h2]
 all_goals
  cases h3: !(ownV l v==a)<;>cases h4: !(ownV l w==b)<;>cases h5: !(w.1==v.1)<;>simp
theorem bv_of_int {a:Int} (h:IntKind.u64.has a):((BitVec.ofInt 64 a).toNat:Int)=a:=by
 obtain⟨h1,h2⟩:=h
 simp [IntKind.min,IntKind.max,IntKind.signed,IntKind.bits]at h1 h2
 rw[BitVec.toNat_ofInt]
 simp
 omega
theorem int_of_bv (b:BitVec 64):BitVec.ofInt 64 (b.toNat:Int)=b:=by
 apply BitVec.eq_of_toNat_eq
 rw[BitVec.toNat_ofInt]
 have:=b.isLt
 simp
 omega
theorem xorU_eq (a b:Int):xorU a b=((BitVec.ofInt 64 a^^^BitVec.ofInt 64 b).toNat:Int):=by
 unfold xorU
 have:=(BitVec.ofInt 64 a^^^BitVec.ofInt 64 b).isLt
 exact wrapU (by omega) (by omega)
theorem xorU_back {a:Int} (h:IntKind.u64.has a) (b:Int):xorU (xorU a b) b=a:=by
 rw[xorU_eq,xorU_eq,int_of_bv,BitVec.xor_assoc,BitVec.xor_self,BitVec.xor_zero]
 exact bv_of_int h
theorem xorB_back {a:Block.D} (h:WF Block a) (b:Block.D):xorB (xorB a b) b=a:=by
 unfold xorB
 rw[xorU_back h.1,xorU_back h.2]
theorem sealedEq_iff {a b:Sealed.D}:sealedEq a b=true↔a=b:=by
 obtain⟨⟨a1,a2⟩,a3,a4⟩:=a
 obtain⟨⟨b1,b2⟩,b3,b4⟩:=b
 simp [sealedEq,and_assoc]
@[reducible] def By:Ty:= .int .u8
def numF (x n:Int):Int:=IntKind.u64.wrap (IntKind.u64.wrap (256*n)+IntKind.u64.wrap x)
def numL (xs:List Int):Int:=xs.foldr numF 0
abbrev live123:List (Nat×Dir):=[(0,.keep),(3,.keep),(4,.keep)]
def vs123 (xs:List Int) (n i:Int):List AV:=[.one (.sl false By none xs),.one (.int .u64 n),.one (.int .i64 i)]
def Λ123:Lam AV:=fun cur vs K=>
 match cur,vs with
 |0,[.one (.sl false (.int .u8) none xs),.one (.int .u64 0),.one (.int .i64 i)]=>
  bif decide (i=(xs.length:Int)-1)&&decide (i≤9223372036854775806)then K (.exit 0) (vs123 xs (numL xs) (-1))else none
 |_,_=>none
theorem step123 (xs:List Int) (n i:Int) (K:AE→List AV→Option AV) (fuel:Nat):
 loopN (aexec tb (orc []) Λ123 ⟨21,0,[(0,live123)]⟩ (loop1 F123).2 0) 21 0 live123 K (fuel+1) (vs123 xs n i)=
 bif decide (i≥0)then
  bif inB i xs.length then loopN (aexec tb (orc []) Λ123 ⟨21,0,[(0,live123)]⟩ (loop1 F123).2 0) 21 0 live123 K fuel (vs123 xs (numF (xs.getD i.toNat 0) n) (IntKind.i64.wrap (i-1)))
  else none
 else K (.exit 0) (vs123 xs n i):=by kernel_rfl
theorem loop123:LoopP tb (orc []) Λ123 ⟨21,0,[(0,live123)]⟩ (loop1 F123):=by
 intro vs K out h
 have hcur:(loop1 F123).1=0:=by kernel_rfl
 rw[hcur]at h⊢
 unfold Λ123 at h
 split at h
 ·rename_i xs i _
  cases hc:(decide (i=(xs.length:Int)-1)&&decide (i≤9223372036854775806))with
  |false=>rw[hc]at h;cases h
  |true=>
   rw[hc]at h
   simp only[cond_true]at h
   simp only[Bool.and_eq_true,decide_eq_true_eq]at hc
   obtain⟨rfl,hmax⟩:=hc
   have key: ∀(j:Nat) (n:Int),j≤xs.length→K (.exit 0) (vs123 xs ((xs.take j).foldr numF n) (-1))=some out→
    ∃fuel,loopN (aexec tb (orc []) Λ123 ⟨21,0,[(0,live123)]⟩ (loop1 F123).2 0) 21 0 live123 K fuel (vs123 xs n ((j:Int)-1))=some out:=by
    intro j
    induction j with
    |zero=>
     intro n _ h
     refine⟨1, ?_⟩
     rw[step123]
     exact h
    |succ j ih=>
     intro n hj h
     have hlt:j<xs.length:=by omega
     have ht:xs.take (j+1)=xs.take j++[xs.getD j 0]:=by
      rw[List.take_add_one,List.getD_eq_getElem?_getD,List.getElem?_eq_getElem hlt];rfl
     rw[ht,List.foldr_append]at h
     obtain⟨fuel,hf⟩:=ih (numF (xs.getD j 0) n) (by omega) h
     refine⟨fuel+1, ?_⟩
     have e:((j+1:Nat):Int)-1=(j:Int):=by omega
     rw[step123,e,decide_eq_true (show(j:Int)≥0 by omega),inB_lt hlt]
     simp only[cond_true,Int.toNat_natCast]
     rw[wrap64 (by omega) (by omega)]
     exact hf
   refine key xs.length 0 (Nat.le_refl _) ?_
   rw[List.take_length]
   exact h
 ·cases h
theorem r123 (xs:List Int):run (orc []) Λ123 [(0,live123)] F123 (encA [.v (.sl By)] xs) []=
 bif decide (IntKind.i64.wrap ((xs.length:Int)-1)=(xs.length:Int)-1)&&decide (IntKind.i64.wrap ((xs.length:Int)-1)≤9223372036854775806)then some (.one (.int .u64 (numL xs)))else none:=by kernel_rfl
def s123:Sp:= .fn [.v (.sl By)] fun xs=>(true,.one (.int .u64 (numL xs)))
theorem g123:GoodS Tryz.prog N123 s123:=by
 refine good (.nil _) H123 rfl (by kernel_rfl) Λ123 [(0,live123)] (oneLoop (p0:=loop1 F123) (by kernel_rfl) loop123) [.v (.sl By)] (by decide) [] _ fun xs r hw h=> ?_
 cases h
 refine(r123 xs).trans ?_
 have hl:xs.length≤9223372036854775807:=hw.1
 rw[wrap64 (by omega) (by omega),decide_eq_true rfl,decide_eq_true (show(xs.length:Int)-1≤9223372036854775806 by omega)]
 rfl
def octB (n:Int):Int:=IntKind.u8.wrap (n.tmod 256)
def octN (n:Int):Int:=IntKind.u64.wrap (n.tdiv 256)
def octL:Nat→Int→List Int
 |0,_=>[]
 |k+1,n=>octB n::octL k (octN n)
def octR:Nat→Int→Int
 |0,n=>n
 |k+1,n=>octR k (octN n)
abbrev live109:List (Nat×List (Nat×Dir)):=[(0,[(3,.arr By),(6,.keep),(7,.keep)]),(2,[(3,.arr By),(5,.keep),(6,.keep),(7,.keep),(10,.keep)])]
def Λ109:Lam AV:=fun cur vs K=>
 match cur,vs with
 |0,[.arr true (.int .u8) [],.agg [.int .u64 x,.int .u64 y],.one (.int .i64 0)]=>K (.exit 0) [.arr true By (octL 8 x++octL 8 y),.agg [.int .u64 x,.int .u64 y],.one (.int .i64 2)]
 |2,[.arr true (.int .u8) [],.one (.int .u64 n),.agg [.int .u64 x,.int .u64 y],.one (.int .i64 i),.one (.int .i64 0)]=>
  K (.exit 2) [.arr true By (octL 8 n),.one (.int .u64 (octR 8 n)),.agg [.int .u64 x,.int .u64 y],.one (.int .i64 i),.one (.int .i64 8)]
 |2,[.arr true (.int .u8) [a,b,c,d,e,f,g,h],.one (.int .u64 n),.agg [.int .u64 x,.int .u64 y],.one (.int .i64 i),.one (.int .i64 0)]=>
  K (.exit 2) [.arr true By ([a,b,c,d,e,f,g,h]++octL 8 n),.one (.int .u64 (octR 8 n)),.agg [.int .u64 x,.int .u64 y],.one (.int .i64 i),.one (.int .i64 8)]
 |_,_=>none
def loop2 (f:Func):Nat×Code:=((loopsOf 0 (body f)).drop 1).headD (0,.skip)
theorem loop109a:LoopP tb (orc []) Λ109 ⟨23,0,live109⟩ (loop1 F109):=by
 intro vs K out h
 have hcur:(loop1 F109).1=0:=by kernel_rfl
 rw[hcur]at h⊢
 unfold Λ109 at h
 split at h
 ·rename_i x y _
  refine⟨3,Eq.trans ?_ h⟩
  kernel_rfl
 ·rename_i e;cases e
 ·rename_i e;cases e
 ·cases h
theorem loop109b:LoopP tb (orc []) Λ109 ⟨23,0,live109⟩ (loop2 F109):=by
 intro vs K out h
 have hcur:(loop2 F109).1=2:=by kernel_rfl
 rw[hcur]at h⊢
 unfold Λ109 at h
 split at h
 ·rename_i e;cases e
 ·refine⟨9,Eq.trans ?_ h⟩
  kernel_rfl
 ·refine⟨9,Eq.trans ?_ h⟩
  kernel_rfl
 ·cases h
def octsB (b:Block.D):List Int:=octL 8 b.1++octL 8 b.2
theorem r109 (b:Block.D):run (orc []) Λ109 live109 F109 (encA [.v Block] b) [.arr By]=some (.arr true By (octsB b)):=by kernel_rfl
def s109:Sp:= .fn [.v Block] fun b=>(true,.arr true By (octsB b))
theorem g109:GoodS Tryz.prog N109 s109:=by
 refine good (.nil _) H109 rfl (by kernel_rfl) Λ109 live109 (twoLoops (p0:=loop1 F109) (p1:=loop2 F109) (by kernel_rfl) loop109a loop109b) [.v Block] (by decide) [.arr By] _ fun b r hw h=> ?_
 cases h
 exact r109 b
abbrev live108:List (Nat×Dir):=[(1,.keep),(2,.keep),(4,.keep)]
def Γ108:Orc:=orc [(N93,s93),(N94,s94),(N123,s123)]
def foldB (b:Block.D) (xs:List Int):Block.D:=mixB (xorB b (numL (xs.take 8),numL (xs.drop 8)))
def Λ108:Lam AV:=fun cur vs K=>
 match cur,vs with
 |0,[.one (.sl false (.int .u8) none [a,b,c,d,e,f,g,h,i,j,k,l,m,n,o,p]),.own [.int .u64 x,.int .u64 y],.own [.int .u64 u,.int .u64 v]]=>
  K (.exit 0) [.one (.sl false By none []),.own [.int .u64 (foldB (x,y) [a,b,c,d,e,f,g,h,i,j,k,l,m,n,o,p]).1,.int .u64 (foldB (x,y) [a,b,c,d,e,f,g,h,i,j,k,l,m,n,o,p]).2],.own [.int .u64 u,.int .u64 v]]
 |_,_=>none
theorem loop108:LoopP tb Γ108 Λ108 ⟨33,0,[(0,live108)]⟩ (loop1 F108):=by
 intro vs K out h
 have hcur:(loop1 F108).1=0:=by kernel_rfl
 rw[hcur]at h⊢
 unfold Λ108 at h
 split at h
 ·refine⟨2,Eq.trans ?_ h⟩
  kernel_rfl
 ·cases h
theorem r108 (z:Block.D) (a b c d e f g h i j k l m n o p:Int):run Γ108 Λ108 [(0,live108)] F108 (encA [.v Block,.v (.sl By)] (z,[a,b,c,d,e,f,g,h,i,j,k,l,m,n,o,p])) []=
 some (.tup [(true,enc Block true (foldB z [a,b,c,d,e,f,g,h,i,j,k,l,m,n,o,p])),(false,[.int .i64 0])]):=by kernel_rfl
def s108:Sp:= .fn [.v Block,.v (.sl By)] fun x=>match x.2 with
 |[a,b,c,d,e,f,g,h,i,j,k,l,m,n,o,p]=>(true,.tup [(true,enc Block true (foldB x.1 [a,b,c,d,e,f,g,h,i,j,k,l,m,n,o,p])),(false,[.int .i64 0])])
 |_=>(false,AV.junk)
theorem g108:GoodS Tryz.prog N108 s108:=by
 refine good (.cons g93 (.cons g94 (.cons g123 (.nil _)))) H108 rfl (by kernel_rfl) Λ108 [(0,live108)] (oneLoop (p0:=loop1 F108) (by kernel_rfl) loop108) [.v Block,.v (.sl By)] (by decide) [] _ fun x r hw hh=> ?_
 obtain⟨z,xs⟩:=x
 simp only at hh
 split at hh
 ·cases hh
  exact r108 ..
 ·cases hh
theorem wrapU8 {n:Int} (h:0≤n) (h':n≤255):IntKind.u8.wrap n=n:=by
 unfold IntKind.wrap;simp [IntKind.signed,IntKind.bits];omega
theorem numL_octL: ∀(k:Nat) (n:Int),k≤8→0≤n→n<256^k→numL (octL k n)=n:=by
 intro k
 induction k with
 |zero=>intro n _ h0 h1;simp [numL,octL]at h1⊢;omega
 |succ k ih=>
  intro n hk h0 h1
  have hp:(256:Int)^(k+1)=256^k*256:=Int.pow_succ ..
  have hle:(256:Int)^k≤256^7:=by
   have:=Nat.pow_le_pow_right (show 0<256 by omega) (show k≤7 by omega)
   exact_mod_cast this
  have h7:(256:Int)^7=72057594037927936:=by decide
  rw[hp]at h1
  rw[h7]at hle
  obtain⟨q,hq⟩: ∃q:Int,q=256^k:=⟨_,rfl⟩
  rw[←hq]at h1 hle
  have hd:n.tdiv 256=n/256:=Int.tdiv_eq_ediv_of_nonneg h0
  have hm:n.tmod 256=n%256:=Int.tmod_eq_emod_of_nonneg h0
  have eN:octN n=n/256:=by
   unfold octN;rw[hd];exact wrapU (by omega) (by omega)
  have eB:octB n=n%256:=by
   unfold octB;rw[hm];exact wrapU8 (by omega) (by omega)
  show numF (octB n) (numL (octL k (octN n)))=n
  rw[eN,ih (n/256) (by omega) (by omega) (by rw[←hq];omega),eB]
  unfold numF
  rw[wrapU (show 0≤256*(n/256) by omega) (by omega),wrapU (show 0≤n%256 by omega) (by omega),wrapU (by omega) (by omega)]
  omega
theorem fold_octs {z c:Block.D} (h:WF Block c):foldB z (octsB c)=mixB (xorB z c):=by
 have h1:=has_u64 h.1
 have h2:=has_u64 h.2
 have e8:(256:Int)^8=18446744073709551616:=by decide
 unfold foldB octsB
 have t:(octL 8 c.1++octL 8 c.2).take 8=octL 8 c.1:=rfl
 have d:(octL 8 c.1++octL 8 c.2).drop 8=octL 8 c.2:=rfl
 rw[t,d,numL_octL 8 c.1 (Nat.le_refl _) h1.1 (by rw[e8];omega),numL_octL 8 c.2 (Nat.le_refl _) h2.1 (by rw[e8];omega)]
def Γ95:Orc:=orc [(N55,s53),(N108,s108),(N109,s109)]
def o95 (k c:Block.D):AV:=encV Block (foldB (partB k 4) (octsB c))
theorem r95 (k c:Block.D):run Γ95 noL [] F95 (encA [.v Block,.v Block] (k,c)) []=allSame (List.replicate 69 (some (o95 k c))):=by kernel_rfl
def s95:Sp:= .fn [.v Block,.v Block] fun x=>(true,encV Block (tagB x.1 x.2))
theorem g95:GoodS Tryz.prog N95 s95:=by
 refine good (.cons g55 (.cons g108 (.cons g109 (.nil _)))) H95 rfl (by kernel_rfl) noL [] (noLoops (by kernel_rfl)) [.v Block,.v Block] (by decide) [] _ fun x r hw h=> ?_
 cases h
 refine(r95 x.1 x.2).trans ((allSame_rep _ 68).trans ?_)
 unfold o95
 rw[fold_octs hw.2];rfl
def Γ57:Orc:=orc [(N55,s53),(N93,s93),(N95,s95)]
def blockEq (a b:Block.D):Bool:=(a.1==b.1)&&(a.2==b.2)
def unwrapRR (k:Block.D) (s:Sealed.D):Block.D×Int:=bif !blockEq s.2 (tagB k s.1)then((0,0),7)else(openB k s,0)
theorem r58 (k:Block.D) (s:Sealed.D):run Γ57 noL [] F58 (encA [.v Block,.v Sealed] (k,s)) []=
 bif !blockEq s.2 (tagB k s.1)then some (.tup [(true,enc Block true (0,0)),(false,[.int .i64 7])])else some (.tup [(true,enc Block true (openB k s)),(false,[.int .i64 0])]):=by kernel_rfl
theorem check_may {l:List Term.D} {v:Value.D}:checkV l v=0↔checkR l=0∧mayV l v=true:=by
 rw[←checkVR_eq,checkVR_zero]
theorem two_iff {l:List Term.D} {k v:Value.D}:twoR l k v=true↔checkV l k=0∧checkV l v=0∧v.1=k.1:=by
 rw[twoR_iff,check_may,check_may]
 exact⟨fun⟨a,b,c,d⟩=>⟨⟨a,b⟩,⟨a,c⟩,d.symm⟩,fun⟨⟨a,b⟩,⟨_,c⟩,d⟩=>⟨a,b,c,d.symm⟩⟩
theorem unwrapR_err (k:Block.D) (s:Sealed.D):((unwrapR k s).2=7∧(unwrapR k s).1=(0,0))∨(unwrapR k s).2=0:=by
 unfold unwrapR
 cases sealedEq (wrapB k (openB k s)) s
 ·exact .inl ⟨rfl,rfl⟩
 ·exact .inr rfl
theorem unwrapVR_eq (l:List Term.D) (k w:Value.D):unwrapVR l k w=unwrapV l k w:=by
 have h:=isV_two (l:=l) (a:=false) (b:=true) (v:=k) (w:=w)
 unfold unwrapVR unwrapV
 have hb:unwrapRBad l k w=(isV l [false,true] [k,w] != 0):=by
  unfold unwrapRBad
  by_cases h1:isV l [false,true] [k,w]=0
  ·obtain⟨g1,g2,g3,g4,g5⟩:=h.1 h1
   rw[h1,two_iff.2 ⟨g1,g2,g5⟩,g3,g4];rfl
  ·have e:(isV l [false,true] [k,w] != 0)=true:=by simpa using h1
   rw[e]
   cases ht:twoR l k w with
   |false=>rfl
   |true=>
    obtain⟨g1,g2,g5⟩:=two_iff.1 ht
    cases h3:ownV l k with
    |true=>rfl
    |false=>
     cases h4:ownV l w with
     |false=>rfl
     |true=>exact absurd (h.2 ⟨g1,g2,h3,h4,g5⟩) h1
 rw[hb]
 rcases isV_two_one l false true k w with h1|h1<;>rw[h1]
 ·cases hk:k.1 with
  |true=>rfl
  |false=>
   rcases unwrapR_err k.2.2.1 w.2.2.2.1 with⟨e1,e2⟩|e1
   ·simp only[e1,e2];rfl
   ·simp only[e1];rfl
 ·rfl
theorem blockEq_iff {a b:Block.D}:blockEq a b=true↔a=b:=by
 obtain⟨a1,a2⟩:=a
 obtain⟨b1,b2⟩:=b
 simp [blockEq]
theorem unwrapRR_eq (k:Block.D) {s:Sealed.D} (h:WF Sealed s):unwrapRR k s=unwrapR k s:=by
 have e:blockEq s.2 (tagB k s.1)=sealedEq (wrapB k (openB k s)) s:=by
  apply bool_iff
  rw[blockEq_iff,sealedEq_iff]
  unfold wrapB openB
  rw[xorB_back h.1]
  constructor
  ·intro e;rw[←e]
  ·intro e;rw[←e]
 unfold unwrapRR unwrapR
 rw[e]
theorem g58:GoodS Tryz.prog N58 s48:=by
 refine good (.cons g55 (.cons g93 (.cons g95 (.nil _)))) H58 rfl (by kernel_rfl) noL [] (noLoops (by kernel_rfl)) [.v Block,.v Sealed] (by decide) [] _ fun x r hw h=> ?_
 cases h
 refine(r58 x.1 x.2).trans ?_
 rw[←unwrapRR_eq x.1 hw.2]
 unfold unwrapRR
 cases blockEq x.2.2 (tagB x.1 x.2.1)<;>rfl
def Opens (sym:Bool) (l:List Term.D) (key w x:Value.D):Prop:=
 match sym with
 |true=> ∃u t i:Nat,key=symV u∧w=symV t∧l[i]? =some (5,(u:Int),(t:Int))∧x=symV i
 |false=> ∃bk bw:Block.D,key=octV bk∧w=octV bw∧WF Block bw∧x=sealV (wrapB bk bw)
section
variable {sym:Bool} {b b':Block.D} {t0 t0':Nat} {l:List Term.D} {m key w x:Value.D}
theorem Opens.mono (h:Opens sym l key w x) (r:List Term.D):Opens sym (l++r) key w x:=by
 cases sym with
 |true=>
  obtain⟨u,t,i,h1,h2,h3,h4⟩:=h
  have:=(List.getElem?_eq_some_iff.1 h3).1
  exact⟨u,t,i,h1,h2,by rw[List.getElem?_append_left this];exact h3,h4⟩
 |false=>exact h
def Sent (sym:Bool) (b:Block.D) (t0:Nat) (l:List Term.D) (h k:Int) (c:List Subset.D) (v:List Value.D) (out:List Part.D) (n:Nat):Prop:=
 out.length=c.length∧ ∀q:Nat,q<n→ ∃key x,out.getD q (Part:Ty).dflt=(sAt c q,x)∧Den sym b t0 l (keyP h k (sAt c q)).reverse key∧Opens sym l key (vaT v q) x
theorem Sent.next {r:List Term.D} {h k:Int} {c:List Subset.D} {v:List Value.D} {out:List Part.D} {j:Nat} (hm:Sent sym b t0 l h k c v out j) (hj:j<c.length) (hd:Den sym b t0 (l++r) (keyP h k (sAt c j)).reverse key) (ho:Opens sym (l++r) key (vaT v j) x):
 Sent sym b t0 (l++r) h k c v (pS2 (pS1 out j (sAt c j)) j x) (j+1):=by
 obtain⟨h1,h2⟩:=hm
 refine⟨by rw[pS2_len,pS1_len];exact h1,fun q hq=> ?_⟩
 unfold pS2 pS1
 rw[Int.toNat_natCast]
 rcases Nat.lt_or_eq_of_le (Nat.le_of_lt_succ hq)with hlt|rfl
 ·obtain⟨key',x',e,hk',ho'⟩:=h2 q hlt
  refine⟨key',x', ?_,hk'.mono hd.good,ho'.mono r⟩
  rw[←e]
  simp only[List.getD_eq_getElem?_getD]
  rw[List.getElem?_set_ne (by omega),List.getElem?_set_ne (by omega)]
 ·refine⟨key,x, ?_,hd,ho⟩
  simp only[List.getD_eq_getElem?_getD]
  rw[List.getElem?_set_self (by rw[List.length_set];omega),List.getElem?_set_self (by omega)]
  rfl
end
theorem sub_zero {a:Int} {H i j:Nat} (ha:a=(H:Int)) (hs:okS H i j=true):subE a ((i:Int),(j:Int))=0∧IntKind.u64.has (i:Int)∧IntKind.u64.has (j:Int):=by
 obtain⟨k1,k2⟩:=okS_iff.1 hs
 obtain⟨h1,h2,h3,h4⟩:=okN_iff.1 k1
 have hp:=pow32 h2
 have hp1:2^(H+1)=2*2^H:=by rw[Nat.pow_succ];omega
 have u: ∀ {n:Nat},n<2^64→IntKind.u64.has (n:Int):=fun {n} hn=>⟨by show(0:Int)≤n;omega,by show(n:Int)≤18446744073709551615;omega⟩
 have hj:j<2^(H+1):=by
  rcases k2 with rfl|⟨h,_⟩
  ·exact Nat.two_pow_pos _
  ·exact(okN_iff.1 h).2.2.2
 refine⟨?_,u (by omega),u (by omega)⟩
 rw[subE_nat (u (by omega)) (u (by omega)),ha]
 simp only[Int.toNat_natCast]
 rw[hs];rfl
theorem CovOk.bad {a k:Int} {l:List Int} {c:List Subset.D} (h:CovOk a k l c) (h0:0≤a): ∀s∈c,badS a s=false:=fun s hs=>by
 obtain⟨i,j,rfl,o,_⟩:=h.ok s hs
 unfold badS
 rw[(sub_zero (a:=a) (H:=a.toNat) (by omega) o).1];rfl
theorem CovOk.has {a k x:Int} {l:List Int} {c:List Subset.D} (h:CovOk a k l c) (h0:0≤a) (hx:IntKind.u64.has x) (hl:leafOk a.toNat x.toNat=true): ∀s∈c,hasS a x s=hasN a.toNat s.1.toNat s.2.toNat x.toNat:=fun s hs=>by
 obtain⟨i,j,rfl,o,_⟩:=h.ok s hs
 obtain⟨_,u1,u2⟩:=sub_zero (a:=a) (H:=a.toNat) (by omega) o
 unfold hasS
 rw[has_nat (s:=((i:Int),(j:Int))) u1 u2 hx]
 simp only[Int.toNat_natCast]
 rw[o,hl];rfl
theorem CovOk.one {a k x:Int} {l:List Int} {c:List Subset.D} (h:CovOk a k l c) (h0:0≤a) (hx:IntKind.u64.has x) (hl:leafOk a.toNat x.toNat=true):c.countP (hasS a x)=if x∈l then 0 else 1:=by
 have h1:=h.cnt x.toNat (leafOk_iff.1 hl).2.2
 have e:((x.toNat:Nat):Int)=x:=(hasU hx).2.2.symm
 rw[e]at h1
 rw[←h1]
 exact List.countP_congr fun s hs=>by rw[h.has h0 hx hl s hs]
section
variable {sym:Bool} {b:Block.D} {t0:Nat} {l:List Term.D} {m:Value.D}
theorem Made.mono {h k:Int} {ps:List Subset.D} {es:List Entry.D} {n:Nat} (hm:Made sym b t0 l h k ps es n) {r:List Term.D} (hg:GoodL (l++r)):Made sym b t0 (l++r) h k ps es n:=
 ⟨hm.1,fun q hq=>by obtain⟨v,e,hv⟩:=hm.2 q hq;exact⟨v,e,hv.mono hg⟩⟩
end
section
variable {sym:Bool} {b:Block.D} {t0:Nat} {l:List Term.D} {m:Value.D}
theorem CovOk.may {h k:Int} {u:List Int} {c:List Subset.D} (hc:CovOk h k u c) (h0:0≤h): ∀s∈c,mayI h k s=(true,0)∧IntKind.u64.has s.1∧IntKind.u64.has s.2:=fun s hs=>by
 obtain⟨i,j,rfl,o,hm⟩:=hc.ok s hs
 obtain⟨_,u1,u2⟩:=sub_zero (a:=h) (H:=h.toNat) (by omega) o
 exact⟨hm,u1,u2⟩
end
theorem g823:GoodS Tryz.prog N823 s823:=by
 refine good (.cons g826 (.cons g317 (.cons g830s (.nil _)))) H823 rfl (by kernel_rfl) noL [] (noLoops (by kernel_rfl)) [] (by decide) [] _ fun x r hw e=> ?_
 cases e
 refine r823.trans ?_
 rw[live_true]
end Go.AM.Seat
