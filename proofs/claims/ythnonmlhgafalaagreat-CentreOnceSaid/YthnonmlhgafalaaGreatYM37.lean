import Derived.Test.YthnonmlhgafalaaGreatYSeIs2
import Derived.Test.YthnonmlhgafalaaGreatYM20
import Derived.Test.YthnonmlhgafalaaGreatYM34
set_option linter.unusedVariables false
set_option linter.unusedSimpArgs false
set_option maxRecDepth 100000
namespace Go.AM.Seat
open Go Go.AM Go.Proofs
def s1075:Sp:= .io fun a p gs=>match a,p,gs with
 |[.one (.hot 0 none),.one (.int .i64 i),.one (.hot 1 none)],0,[.arr _ (.int .u64) l,.arr _ (.int .u64) [x]]=>some (decide (0≤i)&&decide (i≤l.length)&&decide (l.length≤1000000),.one (.hot 0 none),[.arr true U (insL i.toNat x l)])
 |_,_,_=>none
theorem g1075:GoodS Tryz.prog N1075 s1075:=by
 refine GoodS.io (callable_of H1075 (bd rfl) (by kernel_rfl)) fun a p gs r gs' hw1 hw2 h=> ?_
 clear hw1 hw2
 unfold s1075 at h
 split at h
 ·rename_i i f l g x
  simp only[Option.some.injEq,Prod.mk.injEq,Bool.and_eq_true,decide_eq_true_eq]at h
  obtain⟨⟨⟨h0,h1⟩,h2⟩,rfl,rfl⟩:=h
  obtain⟨n,rfl⟩: ∃m:Nat,(m:Int)=i:=⟨i.toNat,Int.toNat_of_nonneg h0⟩
  rw[Int.toNat_natCast]
  exact io1075 l x n f g (Int.ofNat_le.1 h1) h2
 ·cases h
def fdK (a:Int) (l:List Int) (i:Int):Int:=bif findB a l i then 0 else bsPu l i
def fdB (a:Int) (l:List Int) (i:Int):Bool:=bif findB a l i then false else foundBu l i
def fdE (a:Int) (l:List Int) (i:Int):Int:=bif findB a l i then 1 else 0
def s369f:Sp:= .fn [.v I,.v (.sl U),.v U] fun x=>(true,rif (fdK x.1 x.2.1 x.2.2) (fdB x.1 x.2.1 x.2.2) (fdE x.1 x.2.1 x.2.2))
theorem g369f:GoodS Tryz.prog N369 s369f:=by
 have e:s369f=s369L:=by
  unfold s369f s369L
  congr 1
  funext x
  unfold fdK fdB fdE
  cases findB x.1 x.2.1 x.2.2 <;>rfl
 rw[e];exact g369L
def Γ1039:Orc:=orc [(N369,s369f),(N428,s428),(N1075,s1075)]
def withV (a:Int) (l:List Int) (i:Int):List Int×Int:=
 bif fdE a l i != 0 then([],fdE a l i)else bif fdB a l i then([],5)else bif (l.length:Int)==1024 then([],6)else(insL (fdK a l i).toNat i l,0)
def lE (x:List Int×Int):AV:= .tup [(false,[.sl true U none x.1]),(false,[.int .i64 x.2])]
theorem r1039 (a:Int) (l:List Int) (i:Int):run Γ1039 noL [] F1039 [.one (.int .i64 a),.one (.sl false U none l),.one (.int .u64 i)] [.sl true U,.id]=
 bif fdE a l i != 0 then some (lE ([],fdE a l i))else bif fdB a l i then some (lE ([],5))else bif (l.length:Int)==1024 then some (lE ([],6))else
 bif decide (l.length≤1000000)then bif decide (0≤fdK a l i)&&decide (fdK a l i≤(l.length:Int))&&decide (l.length≤1000000)then some (lE (insL (fdK a l i).toNat i l,0))else none else none:=by kernel_rfl
def s1039:Sp:= .fn [.v I,.v (.sl U),.v U] fun x=>(true,lE (withV x.1 x.2.1 x.2.2))
theorem fd_ok {a:Int} {l:List Int} {i:Int} (h:(fdE a l i != 0)=false):findB a l i=false∧lokB a l=true∧((leafI a i).2==0)=true:=by
 unfold fdE at h
 cases hc:findB a l i with
 |true=>rw[hc]at h;cases h
 |false=>
  have hc2:=hc
  unfold findB at hc2
  cases h1:lchkI a l != 0 with
  |true=>rw[h1]at hc2;cases hc2
  |false=>
   rw[h1]at hc2
   refine⟨rfl,lchk_ok h1, ?_⟩
   cases h2:(leafI a i).2==0 with
   |true=>rfl
   |false=>rw[h2]at hc2;cases hc2
theorem g1039:GoodS Tryz.prog N1039 s1039:=by
 refine good (.cons g369f (.cons g428 (.cons g1075 (.nil _)))) H1039 rfl (by kernel_rfl) noL [] (noLoops (by kernel_rfl)) [.v I,.v (.sl U),.v U] (by decide) [.sl true U,.id] _ fun x r hw e=> ?_
 obtain⟨a,l,i⟩:=x
 cases e
 refine(r1039 a l i).trans ?_
 show _=some (lE (withV a l i))
 unfold withV
 cases h1:fdE a l i != 0 with
 |true=>rfl
 |false=>
  cases fdB a l i with
  |true=>rfl
  |false=>
   cases (l.length:Int)==1024 with
   |true=>rfl
   |false=>
    obtain⟨h2,h3,_⟩:=fd_ok h1
    have hl:=(lok_len h3).1
    have hk:fdK a l i=bsPu l i:=by unfold fdK;rw[h2];rfl
    have hb:=(bsPu_spec (t:=i) (lok_sorted h3)).1
    rw[hk,decide_eq_true (show l.length≤1000000 by omega),decide_eq_true (show(0:Int)≤((bsPu l i:Nat):Int) by omega),decide_eq_true (show((bsPu l i:Nat):Int)≤(l.length:Int) by omega)]
    rfl
@[reducible] def ListT:Ty:= .pair I (.pair I (.sl U))
def withL (x:ListT.D) (i:Int):List Int×Int:=
 bif bif (withV x.1 x.2.2 i).2==0 then decide (((withV x.1 x.2.2 i).1.length :Int)>x.2.1)else false then((withV x.1 x.2.2 i).1,6)else withV x.1 x.2.2 i
theorem r971 (x:ListT.D×U.D):run (orc [(N1039,s1039)]) noL [] F971 (encA [.v ListT,.v U] x) [.sl true U,.id]=
 bif bif (withV x.1.1 x.1.2.2 x.2).2==0 then decide (((withV x.1.1 x.1.2.2 x.2).1.length :Int)>x.1.2.1)else false then some (lE ((withV x.1.1 x.1.2.2 x.2).1,6))else some (lE (withV x.1.1 x.1.2.2 x.2)):=by kernel_rfl
def s971:Sp:= .fn [.v ListT,.v U] fun x=>(true,lE (withL x.1 x.2))
theorem g971:GoodS Tryz.prog N971 s971:=by
 refine good (.cons g1039 (.nil _)) H971 rfl (by kernel_rfl) noL [] (noLoops (by kernel_rfl)) [.v ListT,.v U] (by decide) [.sl true U,.id] _ fun x r hw e=> ?_
 cases e
 refine(r971 x).trans ?_
 unfold withL
 cases bif (withV x.1.1 x.1.2.2 x.2).2==0 then decide (((withV x.1.1 x.1.2.2 x.2).1.length :Int)>x.1.2.1)else false<;>rfl
def chgR (W:ListT.D→Int→List Int×Int) (r:RollT.D) (i:Int):RollT.D×Int:=
 bif rollE r != 0 then(zeroR,rollE r)else bif (W (r.1,r.2.1,r.2.2.1) i).2 != 0 then(zeroR,(W (r.1,r.2.1,r.2.2.1) i).2)else bif r.2.2.2 ==1099511627776 then(zeroR,9)else
  ((r.1,r.2.1,(W (r.1,r.2.1,r.2.2.1) i).1,IntKind.i64.wrap (r.2.2.2 +1)),0)
theorem r970 (r:RollT.D) (i:Int):run (orc [(N896,s896),(N971,s971)]) noL [] F970 [.agg (enc RollT false r),.one (.int .u64 i),.one (.fn N971 [])] [wRoll,.id]=
 bif rollE r != 0 then some (rP (zeroR,rollE r))else bif (withL (r.1,r.2.1,r.2.2.1) i).2 != 0 then some (rP (zeroR,(withL (r.1,r.2.1,r.2.2.1) i).2))else bif r.2.2.2 ==1099511627776 then some (rP (zeroR,9))else
  some (rP ((r.1,r.2.1,(withL (r.1,r.2.1,r.2.2.1) i).1,IntKind.i64.wrap (r.2.2.2 +1)),0)):=by kernel_rfl
def s970:Sp:= .fn [.v RollT,.v U,.raw] fun x=>match x.2.2 with
 | .one (.fn f [])=>(Nat.beq f N971,rP (chgR withL x.1 x.2.1))
 |_=>(false,AV.junk)
theorem g970:GoodS Tryz.prog N970 s970:=by
 refine good (.cons g896 (.cons g971 (.nil _))) H970 rfl (by kernel_rfl) noL [] (noLoops (by kernel_rfl)) [.v RollT,.v U,.raw] (by decide) [wRoll,.id] _ fun x r hw h=> ?_
 obtain⟨x,i,c⟩:=x
 simp only at h
 split at h
 ·rename_i f
  simp only[Prod.mk.injEq]at h
  obtain⟨hf,rfl⟩:=h
  obtain rfl:=Nat.eq_of_beq_eq_true hf
  refine(r970 x i).trans ?_
  unfold chgR
  cases rollE x != 0 with
  |true=>rfl
  |false=>
   cases (withL (x.1,x.2.1,x.2.2.1) i).2 != 0 with
   |true=>rfl
   |false=>cases x.2.2.2 ==1099511627776<;>rfl
 ·cases h
theorem r894 (r:RollT.D) (i:Int):run (orc [(N970,s970)]) noL [] F894 [.agg (enc RollT false r),.one (.int .u64 i)] [wRoll,.id]=bif Nat.beq N971 N971 then some (rP (chgR withL r i))else none:=by kernel_rfl
def s894:Sp:= .fn [.v RollT,.v U] fun x=>(true,rP (chgR withL x.1 x.2))
theorem g894:GoodS Tryz.prog N894 s894:=by
 refine good (.cons g970 (.nil _)) H894 rfl (by kernel_rfl) noL [] (noLoops (by kernel_rfl)) [.v RollT,.v U] (by decide) [wRoll,.id] _ fun x r hw e=> ?_
 cases e
 refine(r894 x.1 x.2).trans ?_
 rw[show Nat.beq N971 N971=true from rfl];rfl
def setR (c:CenT.D) (r:RollT.D):CenT.D:=(c.1,c.2.1,c.2.2.1,c.2.2.2.1,r,c.2.2.2.2.2)
def chgC (W:ListT.D→Int→List Int×Int) (c:CenT.D) (i:Int):CenT.D×Int:=
 bif chkC c != 0 then(zeroC,chkC c)else bif (chgR W (cR c) i).2 != 0 then(zeroC,(chgR W (cR c) i).2)else(setR c (chgR W (cR c) i).1,0)
theorem r893 (c:CenT.D) (i:Int):run (orc [(N839,s839),(N894,s894),(N853,s853)]) noL [] F893 [.agg (enc CenT false c),.one (.int .u64 i),.one (.fn N894 [])] [wCen,.id]=
 bif small24 (cL c).length then bif chkC c != 0 then some (cP (zeroC,chkC c))else bif (chgR withL (cR c) i).2 != 0 then some (cP (zeroC,(chgR withL (cR c) i).2))else bif cenS c then some (cP (setR c (chgR withL (cR c) i).1,0))else none else none:=by kernel_rfl
def s893:Sp:= .fn [.v CenT,.v U,.raw] fun x=>match x.2.2 with
 | .one (.fn f [])=>(Nat.beq f N894&&cenS x.1,cP (chgC withL x.1 x.2.1))
 |_=>(false,AV.junk)
theorem cenS_small {c:CenT.D} (h:cenS c=true):small24 (cL c).length=true:=by
 unfold cenS at h
 simp only[Bool.and_eq_true]at h
 exact h.2.2
theorem g893:GoodS Tryz.prog N893 s893:=by
 refine good (.cons g839 (.cons g894 (.cons g853 (.nil _)))) H893 rfl (by kernel_rfl) noL [] (noLoops (by kernel_rfl)) [.v CenT,.v U,.raw] (by decide) [wCen,.id] _ fun x r hw h=> ?_
 obtain⟨c,i,f⟩:=x
 simp only at h
 split at h
 ·rename_i f
  simp only[Prod.mk.injEq,Bool.and_eq_true]at h
  obtain⟨⟨hf,hs⟩,rfl⟩:=h
  obtain rfl:=Nat.eq_of_beq_eq_true hf
  refine(r893 c i).trans ?_
  rw[cenS_small hs,hs]
  unfold chgC
  cases chkC c != 0 with
  |true=>rfl
  |false=>cases (chgR withL (cR c) i).2 != 0<;>rfl
 ·cases h
theorem r837 (c:CenT.D) (i:Int):run (orc [(N893,s893)]) noL [] F837 [.agg (enc CenT false c),.one (.int .u64 i)] [wCen,.id]=bif Nat.beq N894 N894&&cenS c then some (cP (chgC withL c i))else none:=by kernel_rfl
def s837:Sp:= .fn [.v CenT,.v U] fun x=>(cenS x.1,cP (chgC withL x.1 x.2))
theorem g837:GoodS Tryz.prog N837 s837:=by
 refine good (.cons g893 (.nil _)) H837 rfl (by kernel_rfl) noL [] (noLoops (by kernel_rfl)) [.v CenT,.v U] (by decide) [wCen,.id] _ fun x r hw e=> ?_
 obtain⟨c,i⟩:=x
 have hs:cenS c=true:=congrArg Prod.fst e
 obtain rfl:cP (chgC withL c i)=r:=congrArg Prod.snd e
 refine(r837 c i).trans ?_
 rw[hs,show Nat.beq N894 N894=true from rfl];rfl
abbrev live840:List (Nat×Dir):=[(0,.keep),(1,.keep),(4,.keep),(12,.keep),(13,.keep)]
def vs840 (a b:List Entry.D) (r:Bool) (n j:Int):List AV:=[.one (.sl false Entry none a),.one (.sl false Entry none b),.one (.bool r),.one (.int .i64 n),.one (.int .i64 j)]
noncomputable abbrev lo840 (Λ:Lam AV) (K:AE→List AV→Option AV) (fuel:Nat) (vs:List AV):Option AV:=loopN (aexec tb (orc []) Λ ⟨26,0,[(0,live840)]⟩ (loop1 F840).2 0) 26 0 live840 K fuel vs
def ne840 (a b:List Entry.D) (j:Int):Bool:= !partEq (a.getD j.toNat (Entry:Ty).dflt) (b.getD j.toNat (Entry:Ty).dflt)
theorem step840 (a b:List Entry.D) (n j:Int) (Λ:Lam AV) (K:AE→List AV→Option AV) (fuel:Nat):lo840 Λ K (fuel+1) (vs840 a b false n j)=
 bif decide (j<n)then bif inB j a.length then bif inB j b.length then bif ne840 a b j then K .ret (vs840 a b false n j)else lo840 Λ K fuel (vs840 a b false n (IntKind.i64.wrap (j+1)))else none else none else K (.exit 0) (vs840 a b false n j):=by kernel_rfl
def Λ840:Lam AV:=fun _ vs K=>
 match vs with
 |[.one (.sl false (.pair (.pair (.int .u64) (.int .u64)) (.pair .bool (.pair .bool (.pair (.pair (.int .u64) (.int .u64)) (.pair (.pair (.pair (.int .u64) (.int .u64)) (.pair (.int .u64) (.int .u64))) (.int .i64)))))) none a),.one (.sl false (.pair (.pair (.int .u64) (.int .u64)) (.pair .bool (.pair .bool (.pair (.pair (.int .u64) (.int .u64)) (.pair (.pair (.pair (.int .u64) (.int .u64)) (.pair (.int .u64) (.int .u64))) (.int .i64)))))) none b),.one (.bool false),.one (.int .i64 n),.one (.int .i64 0)]=>
  bif decide (n=a.length)&&(decide ((a.length:Int)≤9223372036854775807)&&decide (b.length=a.length))then allK (fun j=>K .ret (vs840 a b false n j)) (K (.exit 0) (vs840 a b false n n)) (fun j=>ne840 a b j) a.length 0 else none
 |_=>none
theorem loop840:LoopP tb (orc []) Λ840 ⟨26,0,[(0,live840)]⟩ (loop1 F840):=by
 intro vs K out e
 have hcur:(loop1 F840).1=0:=by kernel_rfl
 rw[hcur]at e⊢
 unfold Λ840 at e
 split at e
 ·rename_i a b n
  cases hc:decide (n=a.length)&&(decide ((a.length:Int)≤9223372036854775807)&&decide (b.length=a.length))with
  |false=>rw[hc]at e;cases e
  |true=>
   rw[hc]at e
   simp only[cond_true]at e
   simp only[Bool.and_eq_true,decide_eq_true_eq]at hc
   obtain⟨rfl,hmax,hl⟩:=hc
   refine upLoop (α:=Unit) (n:=a.length) (F:=fun fuel _ j=>lo840 Λ840 K fuel (vs840 a b false a.length j))
    (G:=fun j _=>allK (fun j=>K .ret (vs840 a b false a.length j)) (K (.exit 0) (vs840 a b false a.length a.length)) (fun j=>ne840 a b j) (a.length-j) j)
    (fun fuel _=> ?_) (fun _ j hj=> ?_) a.length 0 () out (by omega) e
   ·simp only[step840,nlt_dec,cond_false,Nat.sub_self,allK]
   ·have hm:a.length-j=(a.length-(j+1))+1:=by omega
    have hstep: ∀fuel,lo840 Λ840 K (fuel+1) (vs840 a b false a.length j)=bif ne840 a b j then K .ret (vs840 a b false a.length j)else lo840 Λ840 K fuel (vs840 a b false a.length ((j+1:Nat):Int)):=by
     intro fuel
     rw[step840,lt_dec hj,inB_lt hj,inB_lt (show j<b.length by omega),wrap64 (n:=(j:Int)+1) (by omega) (by omega)]
     rfl
    cases hx:ne840 a b j with
    |true=>right;intro fuel;rw[hstep,hx];simp only[hm,allK,hx,cond_true]
    |false=>
     left;refine⟨(),fun fuel=> ?_, ?_⟩
     ·rw[hstep,hx];rfl
     ·simp only[hm,allK,hx,cond_false]
 ·cases e
theorem r840 (a b:List Entry.D):run (orc []) Λ840 [(0,live840)] F840 (encA [.v (.sl Entry),.v (.sl Entry)] (a,b)) []=
 bif (a.length:Int) != b.length then oB7 false else
 bif decide ((a.length:Int)=a.length)&&(decide ((a.length:Int)≤9223372036854775807)&&decide (b.length=a.length))then allK (fun _=>oB7 false) (oB7 true) (fun j=>ne840 a b j) a.length 0 else none:=by kernel_rfl
def same840 (a b:List Entry.D):Bool:=bif (a.length:Int) != b.length then false else !anyK (fun j=>ne840 a b j) a.length 0
def s840:Sp:= .fn [.v (.sl Entry),.v (.sl Entry)] fun x=>(true,.one (.bool (same840 x.1 x.2)))
theorem g840:GoodS Tryz.prog N840 s840:=by
 refine good (.nil _) H840 rfl (by kernel_rfl) Λ840 [(0,live840)] (oneLoop (p0:=loop1 F840) (by kernel_rfl) loop840) [.v (.sl Entry),.v (.sl Entry)] (by decide) [] _ fun x r hw e=> ?_
 obtain⟨a,b⟩:=x
 cases e
 refine(r840 a b).trans ?_
 unfold same840
 cases hl:(a.length:Int) != b.length with
 |true=>rfl
 |false=>
  have hl:a.length=b.length:=by simp at hl;omega
  have hmx:a.length≤9223372036854775807:=hw.1.1
  rw[decide_eq_true (show(a.length:Int)=a.length from rfl),decide_eq_true (show(a.length:Int)≤9223372036854775807 by omega),decide_eq_true hl.symm,allK_two]
  simp only[Bool.and_self,cond_true,cond_false]
  cases anyK (fun j=>ne840 a b j) a.length 0<;>rfl
theorem same840_self (a:List Entry.D):same840 a a=true:=by
 unfold same840
 have:anyK (fun j=>ne840 a a j) a.length 0=false:=anyK_false _ _ fun q _ hq=>by
  unfold ne840 partEq
  rw[valEq_iff.2 rfl]
  simp
 rw[this]
 simp
@[reducible] def A810:List AK:=[.v CenT,.v U,.v U,.v Block]
def Γ810:Orc:=orc [(N814,s814),(N815,s815),(N821,s821),(N26,s26),(N837,s837),(N817,s817),(N840,s840)]
def fin10 (s:List Entry.D) (d:CenT.D) (i:Int):Option AV:=bif small24 (cL d).length then oB7 (bif (provC d i).2.2 ==0 then same840 s (provC d i).1 else false)else none
def snd10 (s:List Entry.D) (a:CenT.D) (i:Int) (b:Block.D):Option AV:=
 bif small24 (cL a).length then bif (sendC a b).2.2.2 ==0 then fin10 s (sendC a b).2.2.1 i else fin10 s a i else none
def law10 (c:CenT.D) (i k:Int) (b:Block.D) (y:List Entry.D×CenT.D×Int):Option AV:=
 bif y.2.2 != 0 then oB7 ((y.1.length :Int)==0)else bif decide (((cL y.2.1).length:Int)<(cL c).length)then oB7 false else
 bif decide (0≤((cL c).length:Int))&&decide (((cL c).length:Int)≤(cL y.2.1).length)then bif !sameL ((cL y.2.1).take ((cL c).length:Int).toNat) (cL c)then oB7 false else
  bif cenS y.2.1 then bif (chgC withL y.2.1 k).2==0 then snd10 y.1 (chgC withL y.2.1 k).1 i b else snd10 y.1 y.2.1 i b else none else none
theorem r810 (c:CenT.D) (i k:Int) (b:Block.D):run Γ810 noL [] F810 (encA A810 (c,i,k,b)) []=
 bif !fewB c then oB7 true else bif small24 (cL c).length then law10 c i k b (provC c i)else none:=by kernel_rfl
section
variable {sym:Bool} {b:Block.D} {t0:Nat} {m:Value.D}
theorem mkV_again {l l':List Term.D} {h k:Int} {s:Subset.D} (hd:Den sym b t0 l [] m) (hd':Den sym b t0 l' [] m) (hl:l'.length+(2*h.toNat+2)≤65536) (he:(mkV l h k m s).2.2 =0):(mkV l' h k m s).2.2 =0:=by
 unfold mkV at he⊢
 cases hs:s.2==0 with
 |true=>
  rw[hs]at he
  obtain⟨e1,e2⟩:=keyV_err hd he
  have hn:=noKey_err he
  have hn':noKey l' h k m s=false:=by
   unfold noKey at hn⊢
   rw[hd.startE]at hn
   rw[hd'.startE];exact hn
  obtain⟨v,r,e,_⟩:=keyV_run hd' hl hn' e1 e2
  rw[cond_true,e]
 |false=>
  rw[hs]at he
  obtain⟨e0,e1,e2⟩:=labelV_err hd he
  have hn':noLab l' h m s=false:=by
   unfold noLab at e0⊢
   rw[hd.startE]at e0
   rw[hd'.startE];exact e0
  obtain⟨v,r,e,_⟩:=labelV_run hd' hl hn' e1 e2
  rw[cond_false,e]
theorem mkR_again {h k:Int} {ps:List Subset.D}: ∀(n j:Nat) (l l':List Term.D) (es es':List Entry.D) (e e':Int),Den sym b t0 l [] m→Den sym b t0 l' [] m→l.length+n*(2*h.toNat+2)≤65536→l'.length+n*(2*h.toNat+2)≤65536→
 (mkR h k m ps n j l es e).1=false→(mkR h k m ps n j l' es' e').1=false:=by
 intro n
 induction n with
 |zero=>intro _ _ _ _ _ _ _ _ _ _ _ _;rfl
 |succ n ih=>
  intro j l l' es es' e e' hd hd' hl hl' hf
  rw[Nat.succ_mul]at hl hl'
  rw[mkR]at hf⊢
  cases hx:(mkV l h k m (sAt ps j)).2.2 != 0 with
  |true=>rw[hx]at hf;cases hf
  |false=>
   rw[hx,cond_false]at hf
   have h0:(mkV l h k m (sAt ps j)).2.2 =0:=by simpa using hx
   have h0':=mkV_again hd hd' (by omega) h0
   obtain⟨v,r1,a1,a2,a3⟩:=mkV_run (h:=h) (k:=k) (s:=sAt ps j) hd (by omega) h0
   obtain⟨v',r1',a1',a2',a3'⟩:=mkV_run (h:=h) (k:=k) (s:=sAt ps j) hd' (by omega) h0'
   rw[a1]at hf
   rw[a1']
   simp only[bne_self_eq_false,cond_false]at hf⊢
   generalize 2*h.toNat+2=c at*
   exact ih (j+1) (l++r1) (l'++r1') _ _ _ _ (hd.mono a3.good) (hd'.mono a3'.good) (by rw[List.length_append];omega) (by rw[List.length_append];omega) hf
theorem made_again {l l':List Term.D} {h k i:Int} (hd:Den sym b t0 l [] m) (hd':Den sym b t0 l' [] m) (hl:l.length≤50000) (hl':l'.length≤50000) (h8:h≤8) (hz:(makeV l h k m i).2.2 =0):(makeV l' h k m i).2.2 =0:=by
 have hw0:=walk_nil hd
 have hw1:=walk_nil hd'
 have hpl:=pairs_bd8 (h:=h) (k:=k) (i:=i) h8
 have hmul:(pairsL h k i).1.length *(2*h.toNat+2)≤65*18:=Nat.mul_le_mul hpl (by omega)
 unfold makeV at hz⊢
 have hn:noMk l' h k m i=noMk l h k m i:=by unfold noMk;rw[hw0,hw1]
 rw[hn]
 cases hq:noMk l h k m i with
 |true=>rw[hq]at hz;exact absurd (show(1:Int)=0 from hz) (by decide)
 |false=>
  rw[hq]at hz
  cases hx:(mkX l h k m i).1 with
  |true=>rw[hx]at hz;exact absurd hz (mkR_err _ _ _ _ _ hx)
  |false=>
   have:(mkX l' h k m i).1=false:=by
    unfold mkX at hx⊢
    rw[hw0,Int.toNat_natCast]at hx
    rw[hw1,Int.toNat_natCast]
    exact mkR_again _ _ _ _ _ _ _ _ hd hd' (by omega) (by show l'.length+_≤65536;omega) hx
   rw[this];rfl
theorem Made.same {l:List Term.D} {h k:Int} {ps:List Subset.D} {es es':List Entry.D} (h1:Made sym b t0 l h k ps es ps.length) (h2:Made sym b t0 l h k ps es' ps.length):es=es':=by
 refine List.ext_getElem (h1.1.trans h2.1.symm) fun q hq hq'=> ?_
 obtain⟨v,e,d⟩:=h1.2 q (by rw[←h1.1];exact hq)
 obtain⟨v',e',d'⟩:=h2.2 q (by rw[←h1.1];exact hq)
 have hv:=d.uniq d'
 subst hv
 have e3:=e.trans e'.symm
 unfold Made.eAt' at e3
 rw[List.getD_eq_getElem?_getD,List.getD_eq_getElem?_getD,List.getElem?_eq_getElem hq,List.getElem?_eq_getElem hq']at e3
 exact e3
end
theorem bsAu_at {l:List Int} {k:Nat} (h:k<l.length):bsAu l (k:Int)=l[k]:=by unfold bsAu;simp [h]
theorem lok_of {a:Int} {l:List Int} (hc:(chkI a 1 != 0)=false) (hn:l.length≤1024) (hp:l.Pairwise (· < ·)) (hl: ∀x∈l,((leafI a x).2==0)=true):lokB a l=true:=by
 have hb:lbadA a l=false:=by
  cases hb:lbadA a l with
  |false=>rfl
  |true=>
   obtain⟨k,hk,h⟩:=anyN_iff.1 hb
   unfold lbad at h
   rw[bsAu_at hk,hl _ (List.getElem_mem hk)]at h
   simp only[Bool.not_true,cond_false]at h
   rcases Nat.eq_zero_or_pos k with rfl|h0
   ·cases h
   ·rw[decide_eq_true (show(k:Int)>0 by omega),wrap64 (n:=(k:Int)-1) (by omega) (by omega),show((k:Int)-1)=((k-1:Nat):Int) by omega,bsAu_at (show k-1<l.length by omega)]at h
    have h:l[k-1]≥l[k]:=of_decide_eq_true h
    have:=(List.pairwise_iff_getElem.1 hp) (k-1) k (by omega) hk (by omega)
    omega
 unfold lokB
 rw[hc,hb,decide_eq_false (show ¬(l.length:Int)>1024 by omega)];rfl
theorem ins_sorted {l:List Int} {i:Int} (hs:l.Pairwise (· < ·)) (hf:foundBu l i=false):(insL (bsPu l i) i l).Pairwise (· < ·):=by
 obtain⟨h0,h1,h2⟩:=bsPu_spec (t:=i) hs
 have hg: ∀k (hk:k<l.length),bsPu l i≤k→i<l[k]:=fun k hk hpk=>by
  have e1:=h2 _ (show bsPu l i<l.length by omega) (Nat.le_refl _)
  have e2:l[bsPu l i]'(by omega)≠i:=fun e=>by
   unfold foundBu at hf
   rw[decide_eq_true (show((bsPu l i:Nat):Int)<l.length by omega),bsAu_at (show bsPu l i<l.length by omega),e]at hf
   simp at hf
  rcases Nat.lt_or_eq_of_le hpk with h|h
  ·have:=(List.pairwise_iff_getElem.1 hs) (bsPu l i) k (by omega) hk h
   omega
  ·subst h;omega
 unfold insL
 have hd: ∀y∈l.drop (bsPu l i),i<y:=fun y hy=>by
  obtain⟨t,ht,rfl⟩:=List.getElem_of_mem hy
  rw[List.getElem_drop]
  exact hg _ _ (by omega)
 have ht: ∀x∈l.take (bsPu l i),x<i:=fun x hx=>by
  obtain⟨t,ht,rfl⟩:=List.getElem_of_mem hx
  rw[List.getElem_take]
  rw[List.length_take]at ht
  exact h1 _ _ (by omega)
 refine List.pairwise_append.2 ⟨hs.sublist (List.take_sublist ..),List.pairwise_cons.2 ⟨hd,hs.sublist (List.drop_sublist ..)⟩,fun x hx y hy=> ?_⟩
 rcases List.mem_cons.1 hy with rfl|hy
 ·exact ht x hx
 ·exact Int.lt_trans (ht x hx) (hd y hy)
theorem ins_mem {p:Nat} {i y:Int} {l:List Int} (h:y∈insL p i l):y=i∨y∈l:=by
 unfold insL at h
 rcases List.mem_append.1 h with h|h
 ·exact .inr (List.mem_of_mem_take h)
 ·rcases List.mem_cons.1 h with h|h
  ·exact .inl h
  ·exact .inr (List.mem_of_mem_drop h)
theorem ins_len {p:Nat} {i:Int} {l:List Int} (h:p≤l.length):(insL p i l).length=l.length+1:=by
 unfold insL
 simp only[List.length_append,List.length_take,List.length_cons,List.length_drop];omega
theorem withV_ok {a:Int} {l:List Int} {i:Int} (h:(withV a l i).2=0):lokB a (withV a l i).1=true∧(∀y∈(withV a l i).1,y=i∨y∈l):=by
 unfold withV at h⊢
 cases h1:fdE a l i != 0 with
 |true=>
  rw[h1]at h
  have h:fdE a l i=0:=h
  rw[h]at h1;cases h1
 |false=>
  rw[h1]at h
  obtain⟨q1,q2,q3⟩:=fd_ok h1
  cases h2:fdB a l i with
  |true=>rw[h2]at h;exact absurd (show(5:Int)=0 from h) (by decide)
  |false=>
   rw[h2]at h
   cases h3:(l.length:Int)==1024 with
   |true=>rw[h3]at h;exact absurd (show(6:Int)=0 from h) (by decide)
   |false=>
    simp only[cond_false]
    have hk:fdK a l i=bsPu l i:=by unfold fdK;rw[q1];rfl
    have hb:foundBu l i=false:=by
     unfold fdB at h2
     rw[q1]at h2;exact h2
    rw[hk,Int.toNat_natCast]
    obtain⟨g1,g2,_⟩:=lok_len q2
    have hs:=lok_sorted q2
    have hp:=(bsPu_spec (t:=i) hs).1
    have h3:(l.length:Int)≠1024:=by simpa using h3
    refine⟨lok_of g2 (by rw[ins_len hp];omega) (ins_sorted hs hb) fun x hx=> ?_,fun y hy=>ins_mem hy⟩
    rcases ins_mem hx with rfl|hx
    ·exact q3
    ·exact lok_leaf q2 x hx
theorem withL_ok {x:ListT.D} {i:Int} (h:(withL x i).2=0):withL x i=withV x.1 x.2.2 i∧(withV x.1 x.2.2 i).2=0∧((withV x.1 x.2.2 i).1.length :Int)≤x.2.1 :=by
 unfold withL at h⊢
 cases hc:(bif (withV x.1 x.2.2 i).2==0 then decide (((withV x.1 x.2.2 i).1.length :Int)>x.2.1)else false)with
 |true=>rw[hc]at h;exact absurd (show(6:Int)=0 from h) (by decide)
 |false=>
  rw[hc]at h
  have h:(withV x.1 x.2.2 i).2=0:=h
  rw[h]at hc
  have hc:decide (((withV x.1 x.2.2 i).1.length :Int)>x.2.1)=false:=hc
  have hc:=of_decide_eq_false hc
  exact⟨rfl,h,by omega⟩
theorem rollE_of {h cp n:Int} {l:List Int} (h1:(l.length:Int)≤cp) (h2:cp≤1024) (h3:0≤n) (h4:n≤1099511627776) (hl:lokB h l=true):rollE (h,cp,l,n)=0:=by
 have e:rollB (h,cp,l,n)=false:=by
  show(bif (bif (bif decide (cp<(l.length:Int))then true else decide (cp>1024))then true else decide (n<0))then true else decide (n>1099511627776))=false
  rw[decide_eq_false (show ¬cp<(l.length:Int) by omega),decide_eq_false (show ¬cp>1024 by omega),decide_eq_false (show ¬n<0 by omega),decide_eq_false (show ¬n>1099511627776 by omega)];rfl
 show(bif rollB (h,cp,l,n)then(1:Int)else lchkI h l)=0
 rw[e]
 show(bif lokB h l then(0:Int)else 1)=0
 rw[hl];rfl
theorem revoke_ok1 {h cp n i:Int} {l:List Int} (hz:(chgR withL (h,cp,l,n) i).2=0):rollE (chgR withL (h,cp,l,n) i).1=0∧(chgR withL (h,cp,l,n) i).1.1 =h∧ ∀y∈(chgR withL (h,cp,l,n) i).1.2.2.1,y=i∨y∈l:=by
 unfold chgR at hz⊢
 cases h1:rollE (h,cp,l,n) != 0 with
 |true=>
  rw[h1]at hz
  have hz:rollE (h,cp,l,n)=0:=hz
  rw[hz]at h1;cases h1
 |false=>
  rw[h1]at hz
  obtain⟨⟨a1,a2,a3,a4⟩,_⟩:((l.length:Int)≤cp∧cp≤1024∧0≤n∧n≤1099511627776)∧_:=roll_ok (show rollE (h,cp,l,n)=0 by simpa using h1)
  cases h2:(withL (h,cp,l) i).2 != 0 with
  |true=>
   have hz:(bif (withL (h,cp,l) i).2 != 0 then(zeroR,(withL (h,cp,l) i).2)else _:RollT.D×Int).2=0:=hz
   rw[h2]at hz
   have hz:(withL (h,cp,l) i).2=0:=hz
   rw[hz]at h2;cases h2
  |false=>
   have hz:(bif (withL (h,cp,l) i).2 != 0 then(zeroR,(withL (h,cp,l) i).2)else bif n==1099511627776 then(zeroR,9)else((h,cp,(withL (h,cp,l) i).1,IntKind.i64.wrap (n+1)),0):RollT.D×Int).2=0:=hz
   rw[h2]at hz
   cases h3:n==1099511627776 with
   |true=>rw[h3]at hz;exact absurd (show(9:Int)=0 from hz) (by decide)
   |false=>
    have h3:n≠1099511627776:=by simpa using h3
    have h2':(withL (h,cp,l) i).2=0:=by simpa using h2
    obtain⟨w1,w2,w3⟩:withL (h,cp,l) i=withV h l i∧(withV h l i).2=0∧((withV h l i).1.length :Int)≤cp:=withL_ok h2'
    obtain⟨v1,v2⟩:=withV_ok w2
    simp only[cond_false]
    rw[w1]
    have hw:IntKind.i64.wrap (n+1)=n+1:=wrap64 (by omega) (by omega)
    rw[hw]
    exact⟨rollE_of w3 a2 (by omega) (by omega) v1,by first|trivial|rfl,v2⟩
theorem revoke_ok {r:RollT.D} {i:Int} (h:(chgR withL r i).2=0):rollE (chgR withL r i).1=0∧(chgR withL r i).1.1 =r.1∧ ∀y∈(chgR withL r i).1.2.2.1,y=i∨y∈r.2.2.1 :=by
 obtain⟨a,cp,l,n⟩:=r
 exact revoke_ok1 h
theorem leaves_few {a:Int} {l:List Int} (h:lokB a l=true) (h4:a≤4) (hu: ∀y∈l,IntKind.u64.has y):l.length≤16:=by
 have hs:=lok_sorted h
 have hk: ∀k (hk:k<l.length),(k:Int)≤l[k]:=by
  intro k
  induction k with
  |zero=>intro hk;exact(hu _ (List.getElem_mem hk)).1
  |succ k ih=>
   intro hk
   have:=ih (by omega)
   have:=(List.pairwise_iff_getElem.1 hs) k (k+1) (by omega) hk (by omega)
   omega
 rcases Nat.lt_or_ge 16 l.length with hl|hl
 ·exfalso
  have h1:=hk 16 hl
  have h2:=lok_leaf h _ (List.getElem_mem hl)
  unfold leafI at h2
  cases hb:highB a with
  |false=>rw[hb]at h2;cases h2
  |true=>
   rw[hb]at h2
   have hh:=highB_iff.1 hb
   cases hd:decide (shrI l[16] a>0)with
   |true=>rw[hd]at h2;cases h2
   |false=>
    have hd:=of_decide_eq_false hd
    unfold shrI at hd
    have ha:a=1∨a=2∨a=3∨a=4:=by omega
    rw[Int.fdiv_eq_ediv_of_nonneg _ (by exact Int.pow_nonneg (by decide))]at hd
    rcases ha with rfl|rfl|rfl|rfl
    ·have:(2:Int)^min (1:Int).toNat 64=2:=by decide
     rw[this]at hd;omega
    ·have:(2:Int)^min (2:Int).toNat 64=4:=by decide
     rw[this]at hd;omega
    ·have:(2:Int)^min (3:Int).toNat 64=8:=by decide
     rw[this]at hd;omega
    ·have:(2:Int)^min (4:Int).toNat 64=16:=by decide
     rw[this]at hd;omega
 ·omega
section
variable {bm:Block.D} {tm:Nat} {d:CenT.D} {s:List Entry.D} {i:Int}
theorem fin_law (hk:ChkOk d) (dm:Den (cY d) bm tm (cL d) [] (cM d)) (hl:(cL d).length≤20000) (h8:cH d≤8) (hz:(makeV (cL d) (cH d) (cK d) (cM d) i).2.2 =0)
 (hm:Made (cY d) bm tm (cL d) (cH d) (cK d) (pairsL (cH d) (cK d) i).1 s (pairsL (cH d) (cK d) i).1.length):fin10 s d i=oB7 true:=by
 obtain⟨r,e1,e2,e3,hp,hn,hm2⟩:=made_run dm (by omega) h8 hz
 have hm1:=Made.mono hm e3
 have hs:=Made.same hm1 hm2
 have hzk:(mkC d i).2.2 =0:=hz
 unfold fin10 provC
 rw[small_of (show(cL d).length≤65536 by omega),hk.zero,hzk]
 simp only[bne_self_eq_false,cond_false,cond_true]
 have hs:(mkC d i).1=s:=hs.symm
 rw[hs,same840_self];rfl
theorem snd_law {b:Block.D} (hk:ChkOk d) (dm:Den (cY d) bm tm (cL d) [] (cM d)) (hl:(cL d).length≤1900) (h4:cH d≤4) (hz:(makeV (cL d) (cH d) (cK d) (cM d) i).2.2 =0)
 (hm:Made (cY d) bm tm (cL d) (cH d) (cK d) (pairsL (cH d) (cK d) i).1 s (pairsL (cH d) (cK d) i).1.length) (hwu: ∀y∈rL (cR d),IntKind.u64.has y) (hwd: ∀y∈cD d,WF Block y) (hb:WF Block b):snd10 s d i b=oB7 true:=by
 have hfin:=fin_law hk dm (by omega) (by omega) hz hm
 have hlok:lokB (cH d) (rL (cR d))=true:=by
  obtain⟨_,hlok⟩:=roll_ok hk.roll
  have:=hlok
  rw[hk.high]at this;exact this
 have hfew:=leaves_few hlok h4 hwu
 unfold snd10
 rw[small_of (show(cL d).length≤65536 by omega)]
 simp only[cond_true]
 cases g2:cE d==lastI (cY d)with
 |true=>rw[sendC_over hk g2];exact hfin
 |false=>
 rcases Classical.em (cA d=((cD d).length:Int))with g3|g3
 ·rw[sendC_none hk g3 g2];exact hfin
 ·have g2':cE d≠lastI (cY d):=by simpa using g2
  obtain⟨c',x,key,r,s1,sc⟩:=send_law (b:=b) hk hwu hwd hb (by omega) (by omega) hl g2' g3
  rw[sendC_ok hk g2 s1]
  simp only[beq_self_eq_true,cond_true]
  obtain⟨bk,tk,kd⟩:=sc.kden
  have dm2:=dm.mono kd.good
  have e:=sc.same
  have hrl:=sc.rlen
  have hE0:=hk.ep0
  have hE1:=hk.ep1
  have hA0:=hk.at0
  have hA1:=hk.at1
  subst e
  refine fin_law (d:=(cH d,cK d,cY d,cM d,cR d,cE d+1,cD d,cA d+1,cL d++r)) ⟨hk.may,dm2.startE,by show(walkV (cL d++r) (cM d) []).2.2 =0;rw[walk_nil dm2],hk.kind,hk.roll,hk.high,by show 0≤cE d+1;omega,by show cE d+1≤lastI (cY d);omega,hk.draws,by show 1≤cA d+1;omega,by show cA d+1≤((cD d).length:Int);omega⟩
   dm2 (by show(cL d++r).length≤20000;rw[List.length_append];omega) (show cH d≤8 by omega) ?_ (Made.mono hm kd.good)
  exact made_again dm dm2 (by omega) (by rw[List.length_append];omega) (show cH d≤8 by omega) hz
end
theorem law810 {c:CenT.D} {i k:Int} {b:Block.D} (hw:WF CenT c) (hi:IntKind.u64.has i) (hkk:IntKind.u64.has k) (hb:WF Block b):
 (bif !fewB c then oB7 true else bif small24 (cL c).length then law10 c i k b (provC c i)else none)=oB7 true:=by
 cases hf:fewB c with
 |false=>rfl
 |true=>
 obtain⟨f1,f2,f3⟩:=few_ok hf
 have hwu: ∀y∈rL (cR c),IntKind.u64.has y:=hw.2.2.2.2.1.2.2.1.2
 have hwd: ∀y∈cD c,WF Block y:=hw.2.2.2.2.2.2.1.2
 rw[small_of (show(cL c).length≤65536 by omega)]
 simp only[Bool.not_true,cond_false,cond_true]
 unfold provC
 cases h1:chkC c != 0 with
 |true=>unfold law10;simp only[cond_true];rw[h1];rfl
 |false=>
 have hk:=chk_ok (c:=c) (by simpa using h1)
 simp only[cond_false]
 cases h2:(mkC c i).2.2 != 0 with
 |true=>unfold law10;simp only[cond_true];rw[h2];rfl
 |false=>
 have hz:(makeV (cL c) (cH c) (cK c) (cM c) i).2.2 =0:=by
  have:(mkC c i).2.2 =0:=by simpa using h2
  exact this
 obtain⟨h4,hh1⟩:=hk.h4 hwu f1
 obtain⟨sym,bm,tm,dm⟩:=den_ofC hk.start
 obtain rfl:sym=cY c:=dm.facts.2.2.2.1.symm.trans hk.kind
 obtain⟨r0,e1,e2,e3,hp,hn,hm⟩:=made_run dm (by omega) (by omega) hz
 have hmk:(mkC c i).2.1 =cL c++r0:=e1
 simp only[cond_false]
 rw[hmk]
 have hda:=dm.mono e3
 have hka:ChkOk (setL c (cL c++r0)):=hk.more hda.startE (by rw[walk_nil hda])
 have hal:(cL c++r0).length≤1470:=by rw[List.length_append];omega
 have hza:(makeV (cL c++r0) (cH c) (cK c) (cM c) i).2.2 =0:=made_again dm hda (by omega) (by omega) (by omega) hz
 have hD:=hk.draws
 have hcs:cenS (setL c (cL c++r0))=true:=by
  unfold cenS
  show(decide ((rL (cR c)).length≤1000000)&&(decide ((cD c).length≤1000000)&&small24 (cL c++r0).length))=true
  rw[decide_eq_true (show(rL (cR c)).length≤1000000 by omega),decide_eq_true (show(cD c).length≤1000000 by omega),small_of (show(cL c++r0).length≤65536 by omega)];rfl
 have hA:snd10 (mkC c i).1 (setL c (cL c++r0)) i b=oB7 true:=snd_law (d:=setL c (cL c++r0)) hka hda (by show(cL c++r0).length≤1900;omega) h4 hza hm hwu hwd hb
 unfold law10
 show(bif decide (((cL c++r0).length:Int)<(cL c).length)then oB7 false else bif decide (0≤((cL c).length:Int))&&decide (((cL c).length:Int)≤(cL c++r0).length)then bif !sameL ((cL c++r0).take ((cL c).length:Int).toNat) (cL c)then oB7 false else
  bif cenS (setL c (cL c++r0))then bif (chgC withL (setL c (cL c++r0)) k).2==0 then snd10 (mkC c i).1 (chgC withL (setL c (cL c++r0)) k).1 i b else snd10 (mkC c i).1 (setL c (cL c++r0)) i b else none else none)=_
 have hln:(cL c++r0).length=(cL c).length+r0.length:=List.length_append
 rw[decide_eq_false (show ¬((cL c++r0).length:Int)<(cL c).length by omega),decide_eq_true (show(0:Int)≤((cL c).length:Int) by omega),decide_eq_true (show((cL c).length:Int)≤(cL c++r0).length by omega),hcs,Int.toNat_natCast,List.take_left' rfl,
  show sameL (cL c) (cL c)=true from decide_eq_true rfl]
 simp only[Bool.and_self,Bool.not_true,cond_false,cond_true]
 cases hr:(chgC withL (setL c (cL c++r0)) k).2==0 with
 |false=>exact hA
 |true=>
  simp only[cond_true]
  have hr:(chgC withL (setL c (cL c++r0)) k).2=0:=by simpa using hr
  have he:(chgR withL (cR c) k).2=0∧(chgC withL (setL c (cL c++r0)) k).1=setR (setL c (cL c++r0)) (chgR withL (cR c) k).1:=by
   unfold chgC at hr⊢
   rw[hka.zero]at hr⊢
   simp only[bne_self_eq_false,cond_false]at hr⊢
   cases hq:(chgR withL (cR (setL c (cL c++r0))) k).2 != 0 with
   |true=>
    rw[hq]at hr
    have hr:(chgR withL (cR (setL c (cL c++r0))) k).2=0:=hr
    rw[hr]at hq;cases hq
   |false=>
    have hq':(chgR withL (cR (setL c (cL c++r0))) k).2=0:=by simpa using hq
    exact⟨hq',rfl⟩
  obtain⟨he1,he2⟩:=he
  obtain⟨q1,q2,q3⟩:=revoke_ok he1
  rw[he2]
  refine snd_law (d:=setR (setL c (cL c++r0)) (chgR withL (cR c) k).1) ⟨hk.may,hka.start,hka.walk,hk.kind,q1,q2.trans hk.high,hk.ep0,hk.ep1,hk.draws,hk.at0,hk.at1⟩ hda (by show(cL c++r0).length≤1900;omega) h4 hza hm (fun y hy=> ?_) hwd hb
  rcases q3 y hy with rfl|h
  ·exact hkk
  ·exact hwu y h
theorem good810 (x:ADen A810):Good Tryz.prog N810 (encA A810 x) (.one (.bool true)):=by
 have g:GoodS Tryz.prog N810 (.fn A810 fun _=>(true,.one (.bool true))):=by
  refine good (.cons g814 (.cons g815 (.cons g821 (.cons g26 (.cons g837 (.cons g817 (.cons g840 (.nil _)))))))) H810 rfl (by kernel_rfl) noL [] (noLoops (by kernel_rfl)) A810 (by decide) [] _ fun x r hw e=> ?_
  obtain⟨c,i,k,b⟩:=x
  cases e
  refine(r810 c i k b).trans ?_
  exact law810 hw.1 hw.2.1 hw.2.2.1 hw.2.2.2
 exact g.2.1 _ _ (by kernel_rfl)
end Go.AM.Seat
