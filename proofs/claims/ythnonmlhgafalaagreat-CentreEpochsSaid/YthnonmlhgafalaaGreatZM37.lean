import Derived.Test.YthnonmlhgafalaaGreatZSeIs2
import Derived.Test.YthnonmlhgafalaaGreatZM20
import Derived.Test.YthnonmlhgafalaaGreatZM34
set_option linter.unusedVariables false
set_option linter.unusedSimpArgs false
set_option maxRecDepth 100000
namespace Go.AM.Seat
open Go Go.AM Go.Proofs
def s1075:Sp:= .io fun a p gs=>match a,p,gs with
 |[.one (.hot 0 none),.one (.int .i64 i),.one (.hot 1 none)],0,[.arr _ (.int .u64) l,.arr _ (.int .u64) [x]]=>some (decide (0≤i)&&decide (i≤l.length)&&decide (l.length≤1000000),.one (.hot 0 none),[.arr true U (insL i.toNat x l)])
 |_,_,_=>none
theorem g1075:GoodS Tryz.prog N1075 s1075:=by
 refine GoodS.io (callable_of H1075 (bd rfl) (by kernel_rfl)) fun a p gs r gs' hw1 hw2 h=> ?_
 clear hw1 hw2
 unfold s1075 at h
 split at h
 ·rename_i i f l g x
  simp only[Option.some.injEq,Prod.mk.injEq,Bool.and_eq_true,decide_eq_true_eq]at h
  obtain⟨⟨⟨h0,h1⟩,h2⟩,rfl,rfl⟩:=h
  obtain⟨n,rfl⟩: ∃m:Nat,(m:Int)=i:=⟨i.toNat,Int.toNat_of_nonneg h0⟩
  rw[Int.toNat_natCast]
  exact io1075 l x n f g (Int.ofNat_le.1 h1) h2
 ·cases h
def fdK (a:Int) (l:List Int) (i:Int):Int:=bif findB a l i then 0 else bsPu l i
def fdB (a:Int) (l:List Int) (i:Int):Bool:=bif findB a l i then false else foundBu l i
def fdE (a:Int) (l:List Int) (i:Int):Int:=bif findB a l i then 1 else 0
def s369f:Sp:= .fn [.v I,.v (.sl U),.v U] fun x=>(true,rif (fdK x.1 x.2.1 x.2.2) (fdB x.1 x.2.1 x.2.2) (fdE x.1 x.2.1 x.2.2))
theorem g369f:GoodS Tryz.prog N369 s369f:=by
 have e:s369f=s369L:=by
  unfold s369f s369L
  congr 1
  funext x
  unfold fdK fdB fdE
  cases findB x.1 x.2.1 x.2.2 <;>rfl
 rw[e];exact g369L
def Γ1039:Orc:=orc [(N369,s369f),(N428,s428),(N1075,s1075)]
def withV (a:Int) (l:List Int) (i:Int):List Int×Int:=
 bif fdE a l i != 0 then([],fdE a l i)else bif fdB a l i then([],5)else bif (l.length:Int)==1024 then([],6)else(insL (fdK a l i).toNat i l,0)
def lE (x:List Int×Int):AV:= .tup [(false,[.sl true U none x.1]),(false,[.int .i64 x.2])]
theorem r1039 (a:Int) (l:List Int) (i:Int):run Γ1039 noL [] F1039 [.one (.int .i64 a),.one (.sl false U none l),.one (.int .u64 i)] [.sl true U,.id]=
 bif fdE a l i != 0 then some (lE ([],fdE a l i))else bif fdB a l i then some (lE ([],5))else bif (l.length:Int)==1024 then some (lE ([],6))else
 bif decide (l.length≤1000000)then bif decide (0≤fdK a l i)&&decide (fdK a l i≤(l.length:Int))&&decide (l.length≤1000000)then some (lE (insL (fdK a l i).toNat i l,0))else none else none:=by kernel_rfl
def s1039:Sp:= .fn [.v I,.v (.sl U),.v U] fun x=>(true,lE (withV x.1 x.2.1 x.2.2))
theorem fd_ok {a:Int} {l:List Int} {i:Int} (h:(fdE a l i != 0)=false):findB a l i=false∧lokB a l=true∧((leafI a i).2==0)=true:=by
 unfold fdE at h
 cases hc:findB a l i with
 |true=>rw[hc]at h;cases h
 |false=>
  have hc2:=hc
  unfold findB at hc2
  cases h1:lchkI a l != 0 with
  |true=>rw[h1]at hc2;cases hc2
  |false=>
   rw[h1]at hc2
   refine⟨rfl,lchk_ok h1, ?_⟩
   cases h2:(leafI a i).2==0 with
   |true=>rfl
   |false=>rw[h2]at hc2;cases hc2
theorem g1039:GoodS Tryz.prog N1039 s1039:=by
 refine good (.cons g369f (.cons g428 (.cons g1075 (.nil _)))) H1039 rfl (by kernel_rfl) noL [] (noLoops (by kernel_rfl)) [.v I,.v (.sl U),.v U] (by decide) [.sl true U,.id] _ fun x r hw e=> ?_
 obtain⟨a,l,i⟩:=x
 cases e
 refine(r1039 a l i).trans ?_
 show _=some (lE (withV a l i))
 unfold withV
 cases h1:fdE a l i != 0 with
 |true=>rfl
 |false=>
  cases fdB a l i with
  |true=>rfl
  |false=>
   cases (l.length:Int)==1024 with
   |true=>rfl
   |false=>
    obtain⟨h2,h3,_⟩:=fd_ok h1
    have hl:=(lok_len h3).1
    have hk:fdK a l i=bsPu l i:=by unfold fdK;rw[h2];rfl
    have hb:=(bsPu_spec (t:=i) (lok_sorted h3)).1
    rw[hk,decide_eq_true (show l.length≤1000000 by omega),decide_eq_true (show(0:Int)≤((bsPu l i:Nat):Int) by omega),decide_eq_true (show((bsPu l i:Nat):Int)≤(l.length:Int) by omega)]
    rfl
@[reducible] def ListT:Ty:= .pair I (.pair I (.sl U))
def withL (x:ListT.D) (i:Int):List Int×Int:=
 bif bif (withV x.1 x.2.2 i).2==0 then decide (((withV x.1 x.2.2 i).1.length :Int)>x.2.1)else false then((withV x.1 x.2.2 i).1,6)else withV x.1 x.2.2 i
theorem r971 (x:ListT.D×U.D):run (orc [(N1039,s1039)]) noL [] F971 (encA [.v ListT,.v U] x) [.sl true U,.id]=
 bif bif (withV x.1.1 x.1.2.2 x.2).2==0 then decide (((withV x.1.1 x.1.2.2 x.2).1.length :Int)>x.1.2.1)else false then some (lE ((withV x.1.1 x.1.2.2 x.2).1,6))else some (lE (withV x.1.1 x.1.2.2 x.2)):=by kernel_rfl
def s971:Sp:= .fn [.v ListT,.v U] fun x=>(true,lE (withL x.1 x.2))
theorem g971:GoodS Tryz.prog N971 s971:=by
 refine good (.cons g1039 (.nil _)) H971 rfl (by kernel_rfl) noL [] (noLoops (by kernel_rfl)) [.v ListT,.v U] (by decide) [.sl true U,.id] _ fun x r hw e=> ?_
 cases e
 refine(r971 x).trans ?_
 unfold withL
 cases bif (withV x.1.1 x.1.2.2 x.2).2==0 then decide (((withV x.1.1 x.1.2.2 x.2).1.length :Int)>x.1.2.1)else false<;>rfl
def chgR (W:ListT.D→Int→List Int×Int) (r:RollT.D) (i:Int):RollT.D×Int:=
 bif rollE r != 0 then(zeroR,rollE r)else bif (W (r.1,r.2.1,r.2.2.1) i).2 != 0 then(zeroR,(W (r.1,r.2.1,r.2.2.1) i).2)else bif r.2.2.2 ==1099511627776 then(zeroR,9)else
  ((r.1,r.2.1,(W (r.1,r.2.1,r.2.2.1) i).1,IntKind.i64.wrap (r.2.2.2 +1)),0)
theorem r970 (r:RollT.D) (i:Int):run (orc [(N896,s896),(N971,s971)]) noL [] F970 [.agg (enc RollT false r),.one (.int .u64 i),.one (.fn N971 [])] [wRoll,.id]=
 bif rollE r != 0 then some (rP (zeroR,rollE r))else bif (withL (r.1,r.2.1,r.2.2.1) i).2 != 0 then some (rP (zeroR,(withL (r.1,r.2.1,r.2.2.1) i).2))else bif r.2.2.2 ==1099511627776 then some (rP (zeroR,9))else
  some (rP ((r.1,r.2.1,(withL (r.1,r.2.1,r.2.2.1) i).1,IntKind.i64.wrap (r.2.2.2 +1)),0)):=by kernel_rfl
def s970:Sp:= .fn [.v RollT,.v U,.raw] fun x=>match x.2.2 with
 | .one (.fn f [])=>(Nat.beq f N971,rP (chgR withL x.1 x.2.1))
 |_=>(false,AV.junk)
theorem g970:GoodS Tryz.prog N970 s970:=by
 refine good (.cons g896 (.cons g971 (.nil _))) H970 rfl (by kernel_rfl) noL [] (noLoops (by kernel_rfl)) [.v RollT,.v U,.raw] (by decide) [wRoll,.id] _ fun x r hw h=> ?_
 obtain⟨x,i,c⟩:=x
 simp only at h
 split at h
 ·rename_i f
  simp only[Prod.mk.injEq]at h
  obtain⟨hf,rfl⟩:=h
  obtain rfl:=Nat.eq_of_beq_eq_true hf
  refine(r970 x i).trans ?_
  unfold chgR
  cases rollE x != 0 with
  |true=>rfl
  |false=>
   cases (withL (x.1,x.2.1,x.2.2.1) i).2 != 0 with
   |true=>rfl
   |false=>cases x.2.2.2 ==1099511627776<;>rfl
 ·cases h
theorem r894 (r:RollT.D) (i:Int):run (orc [(N970,s970)]) noL [] F894 [.agg (enc RollT false r),.one (.int .u64 i)] [wRoll,.id]=bif Nat.beq N971 N971 then some (rP (chgR withL r i))else none:=by kernel_rfl
def s894:Sp:= .fn [.v RollT,.v U] fun x=>(true,rP (chgR withL x.1 x.2))
theorem g894:GoodS Tryz.prog N894 s894:=by
 refine good (.cons g970 (.nil _)) H894 rfl (by kernel_rfl) noL [] (noLoops (by kernel_rfl)) [.v RollT,.v U] (by decide) [wRoll,.id] _ fun x r hw e=> ?_
 cases e
 refine(r894 x.1 x.2).trans ?_
 rw[show Nat.beq N971 N971=true from rfl];rfl
def setR (c:CenT.D) (r:RollT.D):CenT.D:=(c.1,c.2.1,c.2.2.1,c.2.2.2.1,r,c.2.2.2.2.2)
def chgC (W:ListT.D→Int→List Int×Int) (c:CenT.D) (i:Int):CenT.D×Int:=
 bif chkC c != 0 then(zeroC,chkC c)else bif (chgR W (cR c) i).2 != 0 then(zeroC,(chgR W (cR c) i).2)else(setR c (chgR W (cR c) i).1,0)
theorem r893 (c:CenT.D) (i:Int):run (orc [(N839,s839),(N894,s894),(N853,s853)]) noL [] F893 [.agg (enc CenT false c),.one (.int .u64 i),.one (.fn N894 [])] [wCen,.id]=
 bif small24 (cL c).length then bif chkC c != 0 then some (cP (zeroC,chkC c))else bif (chgR withL (cR c) i).2 != 0 then some (cP (zeroC,(chgR withL (cR c) i).2))else bif cenS c then some (cP (setR c (chgR withL (cR c) i).1,0))else none else none:=by kernel_rfl
def s893:Sp:= .fn [.v CenT,.v U,.raw] fun x=>match x.2.2 with
 | .one (.fn f [])=>(Nat.beq f N894&&cenS x.1,cP (chgC withL x.1 x.2.1))
 |_=>(false,AV.junk)
theorem cenS_small {c:CenT.D} (h:cenS c=true):small24 (cL c).length=true:=by
 unfold cenS at h
 simp only[Bool.and_eq_true]at h
 exact h.2.2
theorem g893:GoodS Tryz.prog N893 s893:=by
 refine good (.cons g839 (.cons g894 (.cons g853 (.nil _)))) H893 rfl (by kernel_rfl) noL [] (noLoops (by kernel_rfl)) [.v CenT,.v U,.raw] (by decide) [wCen,.id] _ fun x r hw h=> ?_
 obtain⟨c,i,f⟩:=x
 simp only at h
 split at h
 ·rename_i f
  simp only[Prod.mk.injEq,Bool.and_eq_true]at h
  obtain⟨⟨hf,hs⟩,rfl⟩:=h
  obtain rfl:=Nat.eq_of_beq_eq_true hf
  refine(r893 c i).trans ?_
  rw[cenS_small hs,hs]
  unfold chgC
  cases chkC c != 0 with
  |true=>rfl
  |false=>cases (chgR withL (cR c) i).2 != 0<;>rfl
 ·cases h
theorem r837 (c:CenT.D) (i:Int):run (orc [(N893,s893)]) noL [] F837 [.agg (enc CenT false c),.one (.int .u64 i)] [wCen,.id]=bif Nat.beq N894 N894&&cenS c then some (cP (chgC withL c i))else none:=by kernel_rfl
def s837:Sp:= .fn [.v CenT,.v U] fun x=>(cenS x.1,cP (chgC withL x.1 x.2))
theorem g837:GoodS Tryz.prog N837 s837:=by
 refine good (.cons g893 (.nil _)) H837 rfl (by kernel_rfl) noL [] (noLoops (by kernel_rfl)) [.v CenT,.v U] (by decide) [wCen,.id] _ fun x r hw e=> ?_
 obtain⟨c,i⟩:=x
 have hs:cenS c=true:=congrArg Prod.fst e
 obtain rfl:cP (chgC withL c i)=r:=congrArg Prod.snd e
 refine(r837 c i).trans ?_
 rw[hs,show Nat.beq N894 N894=true from rfl];rfl
section
variable {sym:Bool} {b:Block.D} {t0:Nat} {m:Value.D}
theorem Made.same {l:List Term.D} {h k:Int} {ps:List Subset.D} {es es':List Entry.D} (h1:Made sym b t0 l h k ps es ps.length) (h2:Made sym b t0 l h k ps es' ps.length):es=es':=by
 refine List.ext_getElem (h1.1.trans h2.1.symm) fun q hq hq'=> ?_
 obtain⟨v,e,d⟩:=h1.2 q (by rw[←h1.1];exact hq)
 obtain⟨v',e',d'⟩:=h2.2 q (by rw[←h1.1];exact hq)
 have hv:=d.uniq d'
 subst hv
 have e3:=e.trans e'.symm
 unfold Made.eAt' at e3
 rw[List.getD_eq_getElem?_getD,List.getD_eq_getElem?_getD,List.getElem?_eq_getElem hq,List.getElem?_eq_getElem hq']at e3
 exact e3
end
theorem bsAu_at {l:List Int} {k:Nat} (h:k<l.length):bsAu l (k:Int)=l[k]:=by unfold bsAu;simp [h]
theorem lok_of {a:Int} {l:List Int} (hc:(chkI a 1 != 0)=false) (hn:l.length≤1024) (hp:l.Pairwise (· < ·)) (hl: ∀x∈l,((leafI a x).2==0)=true):lokB a l=true:=by
 have hb:lbadA a l=false:=by
  cases hb:lbadA a l with
  |false=>rfl
  |true=>
   obtain⟨k,hk,h⟩:=anyN_iff.1 hb
   unfold lbad at h
   rw[bsAu_at hk,hl _ (List.getElem_mem hk)]at h
   simp only[Bool.not_true,cond_false]at h
   rcases Nat.eq_zero_or_pos k with rfl|h0
   ·cases h
   ·rw[decide_eq_true (show(k:Int)>0 by omega),wrap64 (n:=(k:Int)-1) (by omega) (by omega),show((k:Int)-1)=((k-1:Nat):Int) by omega,bsAu_at (show k-1<l.length by omega)]at h
    have h:l[k-1]≥l[k]:=of_decide_eq_true h
    have:=(List.pairwise_iff_getElem.1 hp) (k-1) k (by omega) hk (by omega)
    omega
 unfold lokB
 rw[hc,hb,decide_eq_false (show ¬(l.length:Int)>1024 by omega)];rfl
theorem ins_sorted {l:List Int} {i:Int} (hs:l.Pairwise (· < ·)) (hf:foundBu l i=false):(insL (bsPu l i) i l).Pairwise (· < ·):=by
 obtain⟨h0,h1,h2⟩:=bsPu_spec (t:=i) hs
 have hg: ∀k (hk:k<l.length),bsPu l i≤k→i<l[k]:=fun k hk hpk=>by
  have e1:=h2 _ (show bsPu l i<l.length by omega) (Nat.le_refl _)
  have e2:l[bsPu l i]'(by omega)≠i:=fun e=>by
   unfold foundBu at hf
   rw[decide_eq_true (show((bsPu l i:Nat):Int)<l.length by omega),bsAu_at (show bsPu l i<l.length by omega),e]at hf
   simp at hf
  rcases Nat.lt_or_eq_of_le hpk with h|h
  ·have:=(List.pairwise_iff_getElem.1 hs) (bsPu l i) k (by omega) hk h
   omega
  ·subst h;omega
 unfold insL
 have hd: ∀y∈l.drop (bsPu l i),i<y:=fun y hy=>by
  obtain⟨t,ht,rfl⟩:=List.getElem_of_mem hy
  rw[List.getElem_drop]
  exact hg _ _ (by omega)
 have ht: ∀x∈l.take (bsPu l i),x<i:=fun x hx=>by
  obtain⟨t,ht,rfl⟩:=List.getElem_of_mem hx
  rw[List.getElem_take]
  rw[List.length_take]at ht
  exact h1 _ _ (by omega)
 refine List.pairwise_append.2 ⟨hs.sublist (List.take_sublist ..),List.pairwise_cons.2 ⟨hd,hs.sublist (List.drop_sublist ..)⟩,fun x hx y hy=> ?_⟩
 rcases List.mem_cons.1 hy with rfl|hy
 ·exact ht x hx
 ·exact Int.lt_trans (ht x hx) (hd y hy)
theorem ins_mem {p:Nat} {i y:Int} {l:List Int} (h:y∈insL p i l):y=i∨y∈l:=by
 unfold insL at h
 rcases List.mem_append.1 h with h|h
 ·exact .inr (List.mem_of_mem_take h)
 ·rcases List.mem_cons.1 h with h|h
  ·exact .inl h
  ·exact .inr (List.mem_of_mem_drop h)
theorem ins_len {p:Nat} {i:Int} {l:List Int} (h:p≤l.length):(insL p i l).length=l.length+1:=by
 unfold insL
 simp only[List.length_append,List.length_take,List.length_cons,List.length_drop];omega
theorem withV_ok {a:Int} {l:List Int} {i:Int} (h:(withV a l i).2=0):lokB a (withV a l i).1=true∧(∀y∈(withV a l i).1,y=i∨y∈l):=by
 unfold withV at h⊢
 cases h1:fdE a l i != 0 with
 |true=>
  rw[h1]at h
  have h:fdE a l i=0:=h
  rw[h]at h1;cases h1
 |false=>
  rw[h1]at h
  obtain⟨q1,q2,q3⟩:=fd_ok h1
  cases h2:fdB a l i with
  |true=>rw[h2]at h;exact absurd (show(5:Int)=0 from h) (by decide)
  |false=>
   rw[h2]at h
   cases h3:(l.length:Int)==1024 with
   |true=>rw[h3]at h;exact absurd (show(6:Int)=0 from h) (by decide)
   |false=>
    simp only[cond_false]
    have hk:fdK a l i=bsPu l i:=by unfold fdK;rw[q1];rfl
    have hb:foundBu l i=false:=by
     unfold fdB at h2
     rw[q1]at h2;exact h2
    rw[hk,Int.toNat_natCast]
    obtain⟨g1,g2,_⟩:=lok_len q2
    have hs:=lok_sorted q2
    have hp:=(bsPu_spec (t:=i) hs).1
    have h3:(l.length:Int)≠1024:=by simpa using h3
    refine⟨lok_of g2 (by rw[ins_len hp];omega) (ins_sorted hs hb) fun x hx=> ?_,fun y hy=>ins_mem hy⟩
    rcases ins_mem hx with rfl|hx
    ·exact q3
    ·exact lok_leaf q2 x hx
theorem withL_ok {x:ListT.D} {i:Int} (h:(withL x i).2=0):withL x i=withV x.1 x.2.2 i∧(withV x.1 x.2.2 i).2=0∧((withV x.1 x.2.2 i).1.length :Int)≤x.2.1 :=by
 unfold withL at h⊢
 cases hc:(bif (withV x.1 x.2.2 i).2==0 then decide (((withV x.1 x.2.2 i).1.length :Int)>x.2.1)else false)with
 |true=>rw[hc]at h;exact absurd (show(6:Int)=0 from h) (by decide)
 |false=>
  rw[hc]at h
  have h:(withV x.1 x.2.2 i).2=0:=h
  rw[h]at hc
  have hc:decide (((withV x.1 x.2.2 i).1.length :Int)>x.2.1)=false:=hc
  have hc:=of_decide_eq_false hc
  exact⟨rfl,h,by omega⟩
theorem rollE_of {h cp n:Int} {l:List Int} (h1:(l.length:Int)≤cp) (h2:cp≤1024) (h3:0≤n) (h4:n≤1099511627776) (hl:lokB h l=true):rollE (h,cp,l,n)=0:=by
 have e:rollB (h,cp,l,n)=false:=by
  show(bif (bif (bif decide (cp<(l.length:Int))then true else decide (cp>1024))then true else decide (n<0))then true else decide (n>1099511627776))=false
  rw[decide_eq_false (show ¬cp<(l.length:Int) by omega),decide_eq_false (show ¬cp>1024 by omega),decide_eq_false (show ¬n<0 by omega),decide_eq_false (show ¬n>1099511627776 by omega)];rfl
 show(bif rollB (h,cp,l,n)then(1:Int)else lchkI h l)=0
 rw[e]
 show(bif lokB h l then(0:Int)else 1)=0
 rw[hl];rfl
theorem leaves_few {a:Int} {l:List Int} (h:lokB a l=true) (h4:a≤4) (hu: ∀y∈l,IntKind.u64.has y):l.length≤16:=by
 have hs:=lok_sorted h
 have hk: ∀k (hk:k<l.length),(k:Int)≤l[k]:=by
  intro k
  induction k with
  |zero=>intro hk;exact(hu _ (List.getElem_mem hk)).1
  |succ k ih=>
   intro hk
   have:=ih (by omega)
   have:=(List.pairwise_iff_getElem.1 hs) k (k+1) (by omega) hk (by omega)
   omega
 rcases Nat.lt_or_ge 16 l.length with hl|hl
 ·exfalso
  have h1:=hk 16 hl
  have h2:=lok_leaf h _ (List.getElem_mem hl)
  unfold leafI at h2
  cases hb:highB a with
  |false=>rw[hb]at h2;cases h2
  |true=>
   rw[hb]at h2
   have hh:=highB_iff.1 hb
   cases hd:decide (shrI l[16] a>0)with
   |true=>rw[hd]at h2;cases h2
   |false=>
    have hd:=of_decide_eq_false hd
    unfold shrI at hd
    have ha:a=1∨a=2∨a=3∨a=4:=by omega
    rw[Int.fdiv_eq_ediv_of_nonneg _ (by exact Int.pow_nonneg (by decide))]at hd
    rcases ha with rfl|rfl|rfl|rfl
    ·have:(2:Int)^min (1:Int).toNat 64=2:=by decide
     rw[this]at hd;omega
    ·have:(2:Int)^min (2:Int).toNat 64=4:=by decide
     rw[this]at hd;omega
    ·have:(2:Int)^min (3:Int).toNat 64=8:=by decide
     rw[this]at hd;omega
    ·have:(2:Int)^min (4:Int).toNat 64=16:=by decide
     rw[this]at hd;omega
 ·omega
section
variable {bm:Block.D} {tm:Nat} {d:CenT.D} {s:List Entry.D} {i:Int}
end
end Go.AM.Seat
