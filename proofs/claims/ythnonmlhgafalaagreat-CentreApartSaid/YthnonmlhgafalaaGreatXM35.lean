import Derived.Test.YthnonmlhgafalaaGreatXM34
import Derived.Test.YthnonmlhgafalaaGreatXM21
import Derived.Test.YthnonmlhgafalaaGreatXM19
set_option linter.unusedVariables false
set_option linter.unusedSimpArgs false
set_option maxRecDepth 100000
namespace Go.AM.Seat
open Go Go.AM Go.Proofs
theorem bv_of_int {a:Int} (h:IntKind.u64.has a):((BitVec.ofInt 64 a).toNat:Int)=a:=by
 obtain⟨h1,h2⟩:=h
 simp [IntKind.min,IntKind.max,IntKind.signed,IntKind.bits]at h1 h2
 rw[BitVec.toNat_ofInt]
 simp
 omega
theorem int_of_bv (b:BitVec 64):BitVec.ofInt 64 (b.toNat:Int)=b:=by
 apply BitVec.eq_of_toNat_eq
 rw[BitVec.toNat_ofInt]
 have:=b.isLt
 simp
 omega
theorem xorU_eq (a b:Int):xorU a b=((BitVec.ofInt 64 a^^^BitVec.ofInt 64 b).toNat:Int):=by
 unfold xorU
 have:=(BitVec.ofInt 64 a^^^BitVec.ofInt 64 b).isLt
 exact wrapU (by omega) (by omega)
theorem xorU_back {a:Int} (h:IntKind.u64.has a) (b:Int):xorU (xorU a b) b=a:=by
 rw[xorU_eq,xorU_eq,int_of_bv,BitVec.xor_assoc,BitVec.xor_self,BitVec.xor_zero]
 exact bv_of_int h
theorem xorB_back {a:Block.D} (h:WF Block a) (b:Block.D):xorB (xorB a b) b=a:=by
 unfold xorB
 rw[xorU_back h.1,xorU_back h.2]
theorem sealedEq_self (a:Sealed.D):sealedEq a a=true:=by
 unfold sealedEq
 simp
theorem unwrap_wrap {k b:Block.D} (h:WF Block b):unwrapR k (wrapB k b)=(b,0):=by
 have:openB k (wrapB k b)=b:=xorB_back h _
 unfold unwrapR
 rw[this,sealedEq_self]
 rfl
theorem check_seal {l:List Term.D} (h:GoodL l) (s:Sealed.D):checkV l (sealV s)=0:=checkV_zero.2 ⟨checkL_iff.2 h,rfl⟩
theorem mayB_five {u t n:Int} (u0:0≤u) (u1:u<n) (t0:0≤t) (t1:t<n):mayB (5,u,t) n=true:=by
 unfold mayB mayBad partsL badP
 simp
 omega
def Opens (sym:Bool) (l:List Term.D) (key w x:Value.D):Prop:=
 match sym with
 |true=> ∃u t i:Nat,key=symV u∧w=symV t∧l[i]? =some (5,(u:Int),(t:Int))∧x=symV i
 |false=> ∃bk bw:Block.D,key=octV bk∧w=octV bw∧WF Block bw∧x=sealV (wrapB bk bw)
section
variable {sym:Bool} {b b':Block.D} {t0 t0':Nat} {l:List Term.D} {m key w x:Value.D}
theorem Opens.mono (h:Opens sym l key w x) (r:List Term.D):Opens sym (l++r) key w x:=by
 cases sym with
 |true=>
  obtain⟨u,t,i,h1,h2,h3,h4⟩:=h
  have:=(List.getElem?_eq_some_iff.1 h3).1
  exact⟨u,t,i,h1,h2,by rw[List.getElem?_append_left this];exact h3,h4⟩
 |false=>exact h
theorem wrap_run {p:List Int} (hk:Den sym b t0 l p key) (hw:Den sym b' t0' l [] w) (hf:WF Value w) (hl:l.length<65536):
 ∃x r,wrapV l key w=(x,l++r,0)∧r.length≤1∧GoodL (l++r)∧Opens sym (l++r) key w x:=by
 obtain⟨f1,f2,f3,f4,_⟩:=hk.facts
 obtain⟨g1,g2,g3,g4,_⟩:=hw.facts
 have hz:isV l [false,false] [key,w]=0:=isV_two.2 ⟨f1,g1,f2,g2,by rw[g4,f4]⟩
 have hG:=hk.good
 unfold wrapV
 rw[hz,f4]
 simp only[bne_self_eq_false,cond_false]
 cases sym with
 |true=>
  obtain⟨u,rfl,hu⟩:=hk.std
  obtain⟨t,rfl,ht⟩:=hw.std
  obtain⟨x1,a1,_⟩:=hu.get hk.way
  obtain⟨x2,a2,_⟩:=ht.get hw.way
  have u1:=(List.getElem?_eq_some_iff.1 a1).1
  have t1:=(List.getElem?_eq_some_iff.1 a2).1
  have he:(madeV l (5,(u:Int),(t:Int))).2.2 =0:=madeV_may hG (mayB_five (by omega) (by omega) (by omega) (by omega)) hl
  obtain⟨i,r,m1,m2,m3,m4,m5⟩:=madeV_ok he
  have hlen:=madeV_len l (5,(u:Int),(t:Int))
  rw[m1]at hlen
  refine⟨symV i,r,m1,by simpa using hlen,m3,u,t,i,rfl,rfl,m4,rfl⟩
 |false=>
  obtain rfl:key=octV (foldW b p):=hk.std
  obtain rfl:w=octV (foldW b' []):=hw.std
  exact⟨_,[],by rw[List.append_nil];rfl,by simp,by rw[List.append_nil];exact hG,_,_,rfl,rfl,hf.2.2.1,rfl⟩
theorem unwrap_run {p:List Int} (hk:Den sym b t0 l p key) (ho:Opens sym l key w x):unwrapV l key x=(w,0):=by
 obtain⟨f1,f2,f3,f4,_⟩:=hk.facts
 have hG:=hk.good
 cases sym with
 |true=>
  obtain⟨u,t,i,rfl,rfl,h3,rfl⟩:=ho
  have i1:=(List.getElem?_eq_some_iff.1 h3).1
  have hx:ownV l (symV i)=true:=by
   unfold ownV
   show((tAt l (i:Int)).1==5)=true
   rw[tAt_get h3];rfl
  have hz:isV l [false,true] [symV u,symV i]=0:=isV_two.2 ⟨f1,check_sym hG (by omega) (by omega),f2,hx,rfl⟩
  unfold unwrapV
  rw[hz]
  show(bif (tAt l (i:Int)).2.1 != (u:Int)then(zeroV,7)else(symV (tAt l (i:Int)).2.2,0))=_
  rw[tAt_get h3]
  simp
 |false=>
  obtain⟨bk,bw,rfl,rfl,hb,rfl⟩:=ho
  have hz:isV l [false,true] [octV bk,sealV (wrapB bk bw)]=0:=isV_two.2 ⟨f1,check_seal hG _,f2,rfl,rfl⟩
  unfold unwrapV
  rw[hz]
  show(octV (unwrapR bk (wrapB bk bw)).1,(unwrapR bk (wrapB bk bw)).2)=_
  rw[unwrap_wrap hb]
def Sent (sym:Bool) (b:Block.D) (t0:Nat) (l:List Term.D) (h k:Int) (c:List Subset.D) (v:List Value.D) (out:List Part.D) (n:Nat):Prop:=
 out.length=c.length∧ ∀q:Nat,q<n→ ∃key x,out.getD q (Part:Ty).dflt=(sAt c q,x)∧Den sym b t0 l (keyP h k (sAt c q)).reverse key∧Opens sym l key (vaT v q) x
theorem Sent.next {r:List Term.D} {h k:Int} {c:List Subset.D} {v:List Value.D} {out:List Part.D} {j:Nat} (hm:Sent sym b t0 l h k c v out j) (hj:j<c.length) (hd:Den sym b t0 (l++r) (keyP h k (sAt c j)).reverse key) (ho:Opens sym (l++r) key (vaT v j) x):
 Sent sym b t0 (l++r) h k c v (pS2 (pS1 out j (sAt c j)) j x) (j+1):=by
 obtain⟨h1,h2⟩:=hm
 refine⟨by rw[pS2_len,pS1_len];exact h1,fun q hq=> ?_⟩
 unfold pS2 pS1
 rw[Int.toNat_natCast]
 rcases Nat.lt_or_eq_of_le (Nat.le_of_lt_succ hq)with hlt|rfl
 ·obtain⟨key',x',e,hk',ho'⟩:=h2 q hlt
  refine⟨key',x', ?_,hk'.mono hd.good,ho'.mono r⟩
  rw[←e]
  simp only[List.getD_eq_getElem?_getD]
  rw[List.getElem?_set_ne (by omega),List.getElem?_set_ne (by omega)]
 ·refine⟨key,x, ?_,hd,ho⟩
  simp only[List.getD_eq_getElem?_getD]
  rw[List.getElem?_set_self (by rw[List.length_set];omega),List.getElem?_set_self (by omega)]
  rfl
theorem someR_run {h k:Int} {c:List Subset.D} {v:List Value.D} (hc: ∀s∈c,mayI h k s=(true,0)∧IntKind.u64.has s.1∧IntKind.u64.has s.2):
 ∀(n j:Nat) (l:List Term.D) (out:List Part.D),Den sym b t0 l [] m→(∀q:Nat,q<c.length→WF Value (vaT v q)∧ ∃bw tw,Den sym bw tw l [] (vaT v q))→l.length+n*(2*h.toNat+3)≤65536→j+n=c.length→Sent sym b t0 l h k c v out j→
 ∃r out',someR h k m c v n j l out=(false,l++r,out',0,j+n)∧r.length≤n*(2*h.toNat+3)∧GoodL (l++r)∧Sent sym b t0 (l++r) h k c v out' c.length:=by
 intro n
 induction n with
 |zero=>
  intro j l out hd hv hl hj hm
  refine⟨[],out,by rw[List.append_nil];rfl,Nat.zero_le _,by rw[List.append_nil];exact hd.good, ?_⟩
  rw[List.append_nil,←hj];exact hm
 |succ n ih=>
  intro j l out hd hv hl hj hm
  rw[Nat.succ_mul]at hl
  have hjc:j<c.length:=by omega
  have hs:sAt c j∈c:=by
   unfold sAt
   rw[Int.toNat_natCast,List.getD_eq_getElem?_getD,List.getElem?_eq_getElem hjc,Option.getD_some]
   exact List.getElem_mem hjc
  obtain⟨may,u1,u2⟩:=hc _ hs
  obtain⟨p0,p1,p2⟩:=path_root u1 u2 (may_sub may).1
  have hn:noKey l h k m (sAt c j)=false:=by
   unfold noKey
   rw[hd.startE,may];rfl
  obtain⟨key,r1,a1,a2,a3⟩:=keyV_run hd (by omega) hn p1 p2
  obtain⟨hwf,bw,tw,hw⟩:=hv j hjc
  obtain⟨x,r2,b1,b2,b3,b4⟩:=wrap_run a3 (hw.mono a3.good) hwf (by rw[List.length_append];omega)
  have hd2:=hd.mono (r:=r1++r2) (by rw[←List.append_assoc];exact b3)
  have e1:(l++r1)++r2=l++(r1++r2):=List.append_assoc ..
  rw[e1]at b1 b3 b4
  have a4:Den sym b t0 (l++(r1++r2)) (keyP h k (sAt c j)).reverse key:=by
   have:=a3.mono (r:=r2) (by rw[e1];exact b3)
   rw[e1]at this;exact this
  obtain⟨r3,out',c1,c2,c3,c4⟩:=ih (j+1) (l++(r1++r2)) (pS2 (pS1 out j (sAt c j)) j x) hd2 (fun q hq=>by
   obtain⟨w1,bq,tq,hq'⟩:=hv q hq
   exact⟨w1,bq,tq,hq'.mono b3⟩) (by rw[List.length_append,List.length_append];omega) (by omega) (hm.next hjc a4 b4)
  refine⟨r1++r2++r3,out', ?_,by rw[List.length_append,List.length_append,Nat.succ_mul];omega,by rw[←List.append_assoc];exact c3,by rw[←List.append_assoc];exact c4⟩
  rw[someR,a1]
  simp only[bne_self_eq_false,cond_false]
  rw[b1]
  simp only[bne_self_eq_false,cond_false]
  rw[c1,List.append_assoc,show j+1+n=j+(n+1) by omega]
end
theorem idxP_no {p:Int×Int→Bool} {l:List (Int×Int)} (h: ∀x∈l,p x=false):idxP p l 0<0:=by
 by_cases h1:idxP p l 0<0
 ·exact h1
 ·have h1:idxP p l 0≥0:=by omega
  obtain⟨a,b,c,_⟩:=idxP_spec p l 0 (Int.le_refl 0) h1
  rw[Int.sub_zero]at c
  have hlt:(idxP p l 0).toNat<l.length:=by omega
  rw[List.getD_eq_getElem?_getD,List.getElem?_eq_getElem hlt,Option.getD_some]at c
  rw[h _ (List.getElem_mem hlt)]at c;cases c
theorem idxP_yes {p:Int×Int→Bool} {l:List (Int×Int)} {x:Int×Int} (hx:x∈l) (hp:p x=true):0≤idxP p l 0:=by
 by_cases h1:idxP p l 0<0
 ·have:=idxP_none p l 0 (Int.le_refl 0) (by omega) x hx
  rw[this]at hp;cases hp
 ·omega
theorem sub_zero {a:Int} {H i j:Nat} (ha:a=(H:Int)) (hs:okS H i j=true):subE a ((i:Int),(j:Int))=0∧IntKind.u64.has (i:Int)∧IntKind.u64.has (j:Int):=by
 obtain⟨k1,k2⟩:=okS_iff.1 hs
 obtain⟨h1,h2,h3,h4⟩:=okN_iff.1 k1
 have hp:=pow32 h2
 have hp1:2^(H+1)=2*2^H:=by rw[Nat.pow_succ];omega
 have u: ∀ {n:Nat},n<2^64→IntKind.u64.has (n:Int):=fun {n} hn=>⟨by show(0:Int)≤n;omega,by show(n:Int)≤18446744073709551615;omega⟩
 have hj:j<2^(H+1):=by
  rcases k2 with rfl|⟨h,_⟩
  ·exact Nat.two_pow_pos _
  ·exact(okN_iff.1 h).2.2.2
 refine⟨?_,u (by omega),u (by omega)⟩
 rw[subE_nat (u (by omega)) (u (by omega)),ha]
 simp only[Int.toNat_natCast]
 rw[hs];rfl
theorem CovOk.bad {a k:Int} {l:List Int} {c:List Subset.D} (h:CovOk a k l c) (h0:0≤a): ∀s∈c,badS a s=false:=fun s hs=>by
 obtain⟨i,j,rfl,o,_⟩:=h.ok s hs
 unfold badS
 rw[(sub_zero (a:=a) (H:=a.toNat) (by omega) o).1];rfl
theorem CovOk.has {a k x:Int} {l:List Int} {c:List Subset.D} (h:CovOk a k l c) (h0:0≤a) (hx:IntKind.u64.has x) (hl:leafOk a.toNat x.toNat=true): ∀s∈c,hasS a x s=hasN a.toNat s.1.toNat s.2.toNat x.toNat:=fun s hs=>by
 obtain⟨i,j,rfl,o,_⟩:=h.ok s hs
 obtain⟨_,u1,u2⟩:=sub_zero (a:=a) (H:=a.toNat) (by omega) o
 unfold hasS
 rw[has_nat (s:=((i:Int),(j:Int))) u1 u2 hx]
 simp only[Int.toNat_natCast]
 rw[o,hl];rfl
theorem CovOk.one {a k x:Int} {l:List Int} {c:List Subset.D} (h:CovOk a k l c) (h0:0≤a) (hx:IntKind.u64.has x) (hl:leafOk a.toNat x.toNat=true):c.countP (hasS a x)=if x∈l then 0 else 1:=by
 have h1:=h.cnt x.toNat (leafOk_iff.1 hl).2.2
 have e:((x.toNat:Nat):Int)=x:=(hasU hx).2.2.symm
 rw[e]at h1
 rw[←h1]
 exact List.countP_congr fun s hs=>by rw[h.has h0 hx hl s hs]
theorem first_none {a x:Int} {c:List Subset.D} (hl:(leafI a x).2=0) (hb: ∀s∈c,badS a s=false) (hh: ∀s∈c,hasS a x s=false):firstI a x c=(0,4):=by
 unfold firstI
 rw[hl,decide_eq_false (show ¬idxP (badS a) c 0≥0 by have:=idxP_no hb;omega),decide_eq_true (idxP_no hh)];rfl
theorem first_some {a x:Int} {c:List Subset.D} (hl:(leafI a x).2=0) (hb: ∀s∈c,badS a s=false) {s:Subset.D} (hs:s∈c) (hh:hasS a x s=true):firstI a x c=(idxP (hasS a x) c 0,0):=by
 unfold firstI
 rw[hl,decide_eq_false (show ¬idxP (badS a) c 0≥0 by have:=idxP_no hb;omega),decide_eq_false (show ¬idxP (hasS a x) c 0<0 by have:=idxP_yes hs hh;omega)];rfl
theorem cover_ok {h k:Int} {l:List Int} (hu: ∀y∈l,IntKind.u64.has y) (he:(coverI h k l).2=0):lokB h l=true∧schE h k=0∧CovOk h k l (coverI h k l).1∧1≤h∧h≤32:=by
 have hs:schE h k=0:=by
  unfold coverI at he
  cases h1:schE h k != 0 with
  |true=>rw[h1]at he;exact he
  |false=>simpa using h1
 have hl:lokB h l=true:=by
  cases h1:lokB h l with
  |true=>rfl
  |false=>exact absurd he (cover_err hs h1)
 obtain⟨_,h2,_⟩:=lok_len hl
 have:=highB_iff.1 (chk_zero h2).1
 exact⟨hl,hs,(cover_law hs hl hu).2,this.1,this.2⟩
theorem diff_len1 {a:Int} {l:List Int} (h:lokB a l=true) (hu: ∀x∈l,IntKind.u64.has x):(diffI a l).1.length ≤2*l.length+1:=by
 have s:=setN_of h hu
 obtain⟨S,hSS⟩: ∃S,S=l.map Int.toNat:=⟨_,rfl⟩
 rw[←hSS]at s
 have hSl:S.length=l.length:=by rw[hSS,List.length_map]
 have ho:okN a.toNat 1=true:=by rw[okN_one,decide_eq_true s.h1,decide_eq_true s.h2];rfl
 unfold diffI
 rw[s.below1 h]
 simp only[bne_self_eq_false,cond_false]
 cases hd:decide ((l.length:Int)>0)with
 |false=>simp
 |true=>
  have hlen:0<S.length:=by have:=of_decide_eq_true hd;omega
  simp only[Bool.not_true,cond_false]
  obtain⟨x,hx⟩:=List.exists_mem_of_length_pos hlen
  obtain⟨_,c,c1,c2⟩:=cut_run s h 40 1 ho (by have:=s.h2;omega) ⟨x,hx,abv_one leafN_ne⟩
  have c2:cutR a l 40 1 []=_:=c2 []
  rw[c2,List.nil_append]
  simp only[bne_self_eq_false,cond_false]
  rw[(sortQ_perm _).length_eq,List.length_map]
  have h1:=cut_len s.lt c1
  have h2:S.countP (fun i=>abv 1 (leafN a.toNat i))≤S.length:=List.countP_le_length
  omega
theorem hang_len8 {a:Int} {l:List Int} (h8:a≤8):(hangI a l).1.length ≤18*l.length+1:=by
 unfold hangI
 cases (bif lchkI a l==0 then(l.length:Int)==0 else false)with
 |true=>simp
 |false=>
  simp only[cond_false]
  unfold hangT
  cases hc:(treeI a l).2 != 0 with
  |true=>simp
  |false=>
   simp only[cond_false]
   have h: ∀(t t2 hs:List Int),(hangG a t t2 hs).length≤hs.length+2*t2.length:=by
    intro t t2
    induction t2 with
    |nil=>intro hs;rw[hangG];omega
    |cons x r ih=>
     intro hs
     have:=ih (hs++kidsL a t x)
     have:=kidsL_len a t x
     rw[List.length_append]at*
     rw[hangG,List.length_cons]
     omega
   have h1:=h (treeI a l).1 (treeI a l).1 []
   have h2:(treeI a l).1.length ≤9*l.length:=by
    unfold treeI
    cases hc:lchkI a l != 0 with
    |true=>exact Nat.zero_le _
    |false=>
     have h:=treeG_len (a+1).toNat (l.map fun x=>(leafI a x).1) []
     rw[List.length_map]at h
     have h5:=Nat.mul_le_mul (show(a+1).toNat≤9 by omega) (Nat.le_refl l.length)
     show(treeG (a+1).toNat (l.map fun x=>(leafI a x).1) []).length≤_
     simp only[List.length_nil]at h
     omega
   simp only[List.length_nil]at h1
   omega
theorem cover_len {h k:Int} {l:List Int} (hu: ∀y∈l,IntKind.u64.has y) (he:(coverI h k l).2=0) (h8:h≤8) (h20:l.length≤20):(coverI h k l).1.length ≤400:=by
 obtain⟨hl,hs,_,_,_⟩:=cover_ok hu he
 have d1:=diff_len1 hl hu
 have d2:=hang_len8 (l:=l) h8
 have d3:=partsF_len h (diffI h l).1
 unfold coverI at he⊢
 rw[partsI_eq]at he⊢
 rw[hs]at he⊢
 simp only[bne_self_eq_false,cond_false]at he⊢
 cases h2:k==1 with
 |true=>simp only[cond_true];unfold wholeS;rw[List.length_map];omega
 |false=>
  simp only[cond_false]
  cases h3:(bif (diffI h l).2 != 0 then true else k==2)with
  |true=>simp only[cond_true];omega
  |false=>
   simp only[cond_false]
   cases h4:partsX h (diffI h l).1 with
   |true=>exact Nat.zero_le _
   |false=>
    show(sortQ ([]++partsF h (diffI h l).1)).length≤_
    rw[(sortQ_perm _).length_eq,List.nil_append]
    omega
section
variable {sym:Bool} {b:Block.D} {t0:Nat} {l:List Term.D} {m:Value.D}
theorem Made.mono {h k:Int} {ps:List Subset.D} {es:List Entry.D} {n:Nat} (hm:Made sym b t0 l h k ps es n) {r:List Term.D} (hg:GoodL (l++r)):Made sym b t0 (l++r) h k ps es n:=
 ⟨hm.1,fun q hq=>by obtain⟨v,e,hv⟩:=hm.2 q hq;exact⟨v,e,hv.mono hg⟩⟩
theorem Den.oct {p:List Int} {v:Value.D} (h:Den false b t0 l p v) {l':List Term.D} (hg:GoodL l'):Den false b t0 l' p v:=⟨hg,h.way,h.std⟩
theorem Made.oct {h k:Int} {ps:List Subset.D} {es:List Entry.D} {n:Nat} (hm:Made false b t0 l h k ps es n) {l':List Term.D} (hg:GoodL l'):Made false b t0 l' h k ps es n:=
 ⟨hm.1,fun q hq=>by obtain⟨v,e,hv⟩:=hm.2 q hq;exact⟨v,e,hv.oct hg⟩⟩
theorem walk_nil (hd:Den sym b t0 l [] m):walkV l m []=(m,l,0):=by
 have hb:=hd.good.1
 obtain⟨v',r,a1,a2,a3⟩:=hd.walkV (sd:=[]) (fun x hx=>by cases hx) (by simp) (by simp;omega)
 have:r=[]:=by simpa using a2
 subst this
 rw[List.append_nil]at a1 a3
 rw[a1,←hd.uniq a3]
theorem made_run {h k i:Int} (hd:Den sym b t0 l [] m) (hl:l.length≤50000) (h8:h≤8) (hz:(makeV l h k m i).2.2 =0):
 ∃r,(makeV l h k m i).2.1 =l++r∧r.length≤1170∧GoodL (l++r)∧(pairsL h k i).2=0∧noPr h k i=false∧Made sym b t0 (l++r) h k (pairsL h k i).1 (makeV l h k m i).1 (pairsL h k i).1.length :=by
 have hw0:=walk_nil hd
 have hmk:noMk l h k m i=false∧(mkX l h k m i).1=false:=by
  unfold makeV at hz
  cases hn:noMk l h k m i with
  |true=>rw[hn]at hz;exact absurd (show(1:Int)=0 from hz) (by decide)
  |false=>
   rw[hn]at hz
   refine⟨rfl, ?_⟩
   cases hx:(mkX l h k m i).1 with
   |false=>rfl
   |true=>rw[hx]at hz;exact absurd hz (mkR_err _ _ _ _ _ hx)
 have hp:(pairsL h k i).2=0:=by
  have:=hmk.1
  unfold noMk at this
  cases hq:(pairsL h k i).2 != 0 with
  |true=>rw[hq]at this;cases this
  |false=>simpa using hq
 have hn:noPr h k i=false:=by
  cases hn:noPr h k i with
  |false=>rfl
  |true=>unfold pairsL at hp;rw[hn]at hp;exact absurd (show(1:Int)=0 from hp) (by decide)
 have hpl:=pairs_bd8 (h:=h) (k:=k) (i:=i) h8
 have hemk:makeV l h k m i=((mkX l h k m i).2.2.1,(mkX l h k m i).2.1,0):=by unfold makeV;rw[hmk.1,hmk.2];rfl
 have hmul:(pairsL h k i).1.length *(2*h.toNat+2)≤65*18:=Nat.mul_le_mul hpl (by omega)
 obtain⟨r,c1,c2,c3,c4⟩:=mkR_run (m:=m) (h:=h) (k:=k) (ps:=(pairsL h k i).1) (pairsL h k i).1.length 0 l (List.replicate (pairsL h k i).1.length Entry.dflt) 0 hd (by omega) (by omega) ⟨by simp,fun q hq=>absurd hq (Nat.not_lt_zero q)⟩ (by
  have:=hmk.2
  unfold mkX at this
  rw[hw0,Int.toNat_natCast,hp]at this
  exact this)
 have hX:mkX l h k m i=mkR h k m (pairsL h k i).1 (pairsL h k i).1.length 0 l (List.replicate (pairsL h k i).1.length Entry.dflt) 0:=by
  unfold mkX;rw[hw0,Int.toNat_natCast,hp]
 rw[hemk,hX]
 exact⟨r,c1,by omega,c3,hp,hn,c4⟩
theorem key_run {own:List Term.D} {h k i:Int} {s:Subset.D} {es:List Entry.D} (hd':Den sym b t0 own [] m) (hol:own.length≤50000) (h8:h≤8) (h1:IntKind.u64.has s.1) (h2:IntKind.u64.has s.2) (hi:IntKind.u64.has i) (hp:(pairsL h k i).2=0) (hn:noPr h k i=false)
 (c4:Made sym b t0 own h k (pairsL h k i).1 es (pairsL h k i).1.length) (hm:mayI h k s=(true,0)) (hh:hasI h s i=(true,0)):
 ∃v r,keyR own h k i es s=(v,own++r,0)∧Den sym b t0 (own++r) (keyP h k s).reverse v:=by
 have c3:=hd'.good
 obtain⟨nm,nl⟩:=noPr_ok hn
 have hck:=check_made c3 hp c4
 have hx:keyR own h k i es s=bif (entryI h k i s).2.2 != 0 then(zeroV,[],(entryI h k i s).2.2)else
  bif (bif (keyT own h k i es s).2.2 != 0 then true else s.2==0)then keyT own h k i es s else partV (keyT own h k i es s).2.1 (keyT own h k i es s).1 2:=by
  unfold keyR;rw[hck];rfl
 have hm1:(mayI h k s).1=true:=by rw[hm]
 have hy:(mayI h k s).2=0:=by rw[hm]
 have hh1:(hasI h s i).1=true:=by rw[hh]
 have hh2:(hasI h s i).2=0:=by rw[hh]
 have hne:noEn h k i s=false:=by
  unfold noEn
  rw[hp,nl,hy,hm1];rfl
 rcases Classical.em (s.2=0)with hs|hs
 ·have hmem:=from_zero h1 h2 hi hn hm hh hs
  have hidx:=idxS_mem (Int.le_refl 0) hmem
  obtain⟨q1,q2,q3,q4⟩:=idxS_ok hidx
  have he:entryI h k i s=(idxS s (pairsL h k i).1 0,[],0):=by
   unfold entryI
   rw[hne,hh2,hh1,hs]
   unfold atI
   rw[decide_eq_false hidx];rfl
  obtain⟨Q,hQ⟩:=Int.eq_ofNat_of_zero_le q1
  rw[hQ]at q2 q3 he
  obtain⟨v,e,hv⟩:=c4.2 Q (by omega)
  rw[q3]at e hv
  have hkT:keyT own h k i es s=(v,own,0):=by
   unfold keyT
   rw[he]
   simp only
   rw[eAt_nat,e]
   obtain⟨v',r',a1,a2,a3⟩:=hv.walkV (sd:=[]) (fun x hx=>by cases hx) (by simp) (by simp;omega)
   have:r'=[]:=by simpa using a2
   subst this
   rw[List.append_nil]at a1 a3
   rw[a1,←hv.uniq a3]
  refine⟨v,[], ?_, ?_⟩
  ·rw[hx,he,hkT,hs,List.append_nil];rfl
  ·have:mkP h k s=keyP h k s:=by unfold mkP;rw[hs];rfl
   rw[←this,List.append_nil];exact hv
 ·obtain⟨hk,f1,f2,f3,f4,f5⟩:=from_ok h1 h2 hi hn hm hh hs
  have hidx:=idxS_mem (Int.le_refl 0) f3
  obtain⟨q1,q2,q3,q4⟩:=idxS_ok hidx
  have he:entryI h k i s=(idxS (s.1,fromJ h i s) (pairsL h k i).1 0,(pathI h (fromJ h i s) s.2).1,0):=by
   unfold entryI
   rw[hne,hh2,hh1,show(s.2 != 0)=true by simpa using hs,f1,f2]
   unfold atI
   rw[decide_eq_false hidx];rfl
  obtain⟨Q,hQ⟩:=Int.eq_ofNat_of_zero_le q1
  rw[hQ]at q2 q3 he
  obtain⟨v,e,hv⟩:=c4.2 Q (by omega)
  rw[q3]at e hv
  have hpl2:=path_lenH h (fromJ h i s) s.2
  obtain⟨v1,r1,a1,a2,a3⟩:=hv.walkV (sd:=(pathI h (fromJ h i s) s.2).1) (path_01 _ _ _) (by omega) (by omega)
  obtain⟨v2,r2,d1,d2,d3⟩:=a3.step (by rw[List.length_append];omega) (i:=2) (by decide) (by decide)
  have hkT:keyT own h k i es s=(v1,own++r1,0):=by
   unfold keyT
   rw[he]
   simp only
   rw[eAt_nat,e]
   exact a1
  have hway:(2:Int)::((pathI h (fromJ h i s) s.2).1.reverse ++(mkP h k (s.1,fromJ h i s)).reverse)=(keyP h k s).reverse:=by
   unfold mkP keyP labP
   rw[show((s.1,fromJ h i s).2==0)=false by simpa using f4,show((s.1,fromJ h i s).2 != 0)=true by simpa using f4,show(s.2 != 0)=true by simpa using hs,show(k != 1)=true by simpa using hk,←f5]
   simp
  rw[hway,List.append_assoc]at d3
  refine⟨v2,r1++r2, ?_,d3⟩
  rw[hx,he,hkT]
  simp only[bne_self_eq_false,cond_false]
  rw[show(s.2==0)=false by simpa using hs,←List.append_assoc]
  exact d1
end
section
variable {sym:Bool} {b:Block.D} {t0:Nat} {l:List Term.D} {m:Value.D}
theorem CovOk.may {h k:Int} {u:List Int} {c:List Subset.D} (hc:CovOk h k u c) (h0:0≤h): ∀s∈c,mayI h k s=(true,0)∧IntKind.u64.has s.1∧IntKind.u64.has s.2:=fun s hs=>by
 obtain⟨i,j,rfl,o,hm⟩:=hc.ok s hs
 obtain⟨_,u1,u2⟩:=sub_zero (a:=h) (H:=h.toNat) (by omega) o
 exact⟨hm,u1,u2⟩
theorem op_true {v:Value.D} {bw:Block.D} {tw:Nat} (hd:Den sym bw tw l [] v):opB l v sym=true:=by
 unfold opB
 rw[walk_nil hd]
 show(v.1==sym)=true
 rw[hd.facts.2.2.2.1];simp
theorem some_law {h k:Int} {u:List Int} {c:List Subset.D} {v:List Value.D} (hd:Den sym b t0 l [] m) (hc:CovOk h k u c) (h0:0≤h) (h8:h≤8) (hcl:c.length≤400) (hl:l.length≤2000) (hvl:v.length=c.length)
 (hv: ∀q:Nat,q<c.length→WF Value (vaT v q)∧ ∃bw tw,Den sym bw tw l [] (vaT v q)):
 ∃r out,someV l h k m c v=(out,l++r,0)∧r.length≤7600∧GoodL (l++r)∧Sent sym b t0 (l++r) h k c v out c.length:=by
 have hn:noSome l m c v=false:=by
  unfold noSome
  rw[hvl,hd.facts.2.2.2.1,op_true hd]
  simp
 have hb:badSome l h k m c v=false:=by
  unfold badSome
  have e1:c.any (fun s=>oddS h k s)=false:=by
   rw[List.any_eq_false]
   intro s hs
   unfold oddS
   rw[(hc.may h0 s hs).1];decide
  have e2:v.any (fun s=>shutV l (flatV m) s)=false:=by
   rw[List.any_eq_false]
   intro s hs
   obtain⟨q,hq,rfl⟩:=List.getElem_of_mem hs
   obtain⟨_,bw,tw,hw⟩:=hv q (by omega)
   have e:vaT v (q:Int)=v[q]:=by unfold vaT;simp [hq]
   rw[e]at hw
   unfold shutV
   have:(flatV m).1=sym:=hd.facts.2.2.2.1
   rw[this,op_true hw];decide
  rw[e1,e2];rfl
 have hmul:c.length*(2*h.toNat+3)≤400*19:=Nat.mul_le_mul hcl (by omega)
 obtain⟨r,out,c1,c2,c3,c4⟩:=someR_run (b:=b) (t0:=t0) (m:=m) (hc.may h0) c.length 0 l (List.replicate c.length (Part:Ty).dflt) hd hv (by omega) (by omega) ⟨by simp,fun q hq=>absurd hq (Nat.not_lt_zero q)⟩
 have hX:someX l h k m c v=(false,l++r,out,0,0+c.length):=by
  unfold someX
  rw[Int.toNat_natCast];exact c1
 refine⟨r,out, ?_,by omega,c3,c4⟩
 unfold someV
 rw[hn,hb,hX];rfl
theorem sent_fst {h k:Int} {c:List Subset.D} {v:List Value.D} {out:List Part.D} (hs:Sent sym b t0 l h k c v out c.length):fstS out=c:=by
 obtain⟨h1,h2⟩:=hs
 refine List.ext_getElem (by simp [fstS,h1]) fun q q1 q2=> ?_
 obtain⟨key,x,e,_⟩:=h2 q q2
 have hq:q<out.length:=by omega
 rw[List.getD_eq_getElem?_getD,List.getElem?_eq_getElem hq,Option.getD_some]at e
 have e1:(fstS out)[q]=out[q].1:=by simp [fstS]
 rw[e1,e]
 unfold sAt
 simp [q2]
theorem open_no {h k i:Int} {c:List Subset.D} {v:List Value.D} {out:List Part.D} {es:List Entry.D} (hs:Sent sym b t0 l h k c v out c.length) (hf:(firstI h i c).2≠0):openP l h k i es out=(zeroV,[],(firstI h i c).2):=by
 unfold openP
 rw[sent_fst hs,show((firstI h i c).2 != 0)=true by simpa using hf];rfl
theorem first_has {h k i:Int} {u:List Int} {c:List Subset.D} (hc:CovOk h k u c) (h0:0≤h) (hi:IntKind.u64.has i) (hf:(firstI h i c).2=0): ∃q:Nat,(firstI h i c).1=q∧q<c.length∧sAt c q∈c∧hasI h (sAt c q) i=(true,0):=by
 obtain⟨f1,f2⟩:=firstI_in hf
 obtain⟨q,hq⟩:=Int.eq_ofNat_of_zero_le f1
 have hlt:q<c.length:=by omega
 have hs:sAt c q=c[q]:=by unfold sAt;simp [hlt]
 have hmem:sAt c q∈c:=by rw[hs];exact List.getElem_mem hlt
 refine⟨q,hq,hlt,hmem, ?_⟩
 unfold firstI at hf hq
 cases h1:(leafI h i).2 != 0 with
 |true=>rw[h1]at hf;exact absurd (show(1:Int)=0 from hf) (by decide)
 |false=>
  rw[h1]at hf hq
  simp only[cond_false]at hf hq
  have hlo:leafOk h.toNat i.toNat=true:=by
   obtain⟨c0,c1,_⟩:=hasU hi
   rw[←leaf_err (h:=h) c0 c1,show(leafI h i).2=0 by simpa using h1];rfl
  cases h2:decide (idxP (badS h) c 0≥0)with
  |true=>rw[h2]at hf;exact absurd (show(1:Int)=0 from hf) (by decide)
  |false=>
   rw[h2]at hf hq
   simp only[cond_false]at hf hq
   cases h3:decide (idxP (hasS h i) c 0<0)with
   |true=>rw[h3]at hf;exact absurd (show(4:Int)=0 from hf) (by decide)
   |false=>
    rw[h3]at hq
    have hq:idxP (hasS h i) c 0=q:=hq
    have h3:=of_decide_eq_false h3
    obtain⟨_,_,a3,_⟩:=idxP_spec (hasS h i) c 0 (Int.le_refl 0) (by omega)
    rw[hq,Int.sub_zero]at a3
    have a3:hasS h i (sAt c q)=true:=a3
    rw[hc.has h0 hi hlo _ hmem]at a3
    obtain⟨x,y,e,o,_⟩:=hc.ok _ hmem
    obtain⟨_,u1,u2⟩:=sub_zero (a:=h) (H:=h.toNat) (by omega) o
    rw[e]at a3⊢
    rw[has_nat (s:=((x:Int),(y:Int))) u1 u2 hi]
    simp only[Int.toNat_natCast]at a3⊢
    rw[o,hlo,a3];rfl
theorem first_in {h k i:Int} {u:List Int} {c:List Subset.D} (hc:CovOk h k u c) (h0:0≤h) (hi:IntKind.u64.has i) (hn:noPr h k i=false):(i∈u→firstI h i c=(0,4))∧(¬i∈u→(firstI h i c).2=0):=by
 obtain⟨nm,nl⟩:=noPr_ok hn
 obtain⟨c0,c1,_⟩:=hasU hi
 have hl0:(leafI h i).2=0:=by simpa using nl
 have hlo:leafOk h.toNat i.toNat=true:=by rw[←leaf_err (h:=h) c0 c1,hl0];rfl
 have hone:=hc.one h0 hi hlo
 have hbad:=hc.bad h0
 constructor
 ·intro hin
  rw[if_pos hin]at hone
  exact first_none hl0 hbad fun s hs=>by simpa using List.countP_eq_zero.1 hone s hs
 ·intro hin
  rw[if_neg hin]at hone
  obtain⟨s,hs,hsp⟩:=List.countP_pos_iff.1 (show 0<c.countP (hasS h i) by omega)
  rw[first_some hl0 hbad hs hsp]
end
section
variable {b:Block.D} {t0:Nat} {l:List Term.D} {m:Value.D}
theorem step_oct {p:List Int} {v:Value.D} (h:Den false b t0 l p v) (hl:l.length<65536) {i:Int} (h0:0≤i) (h2:i≤2): ∃v',partV l v i=(v',l,0)∧Den false b t0 l (i::p) v':=by
 obtain⟨f1,f2,f3,f4,f5⟩:=h.facts
 obtain⟨g1,g2,g3⟩:=h
 have hp:In02 (i::p):=fun x hx=>(List.mem_cons.1 hx).elim (fun e=>e▸⟨h0,h2⟩) (g2 x)
 have he:=partV_may hl f1 f2 h0 h2
 have hb:=partBad_false.2 ⟨f1,f2,h0,h2⟩
 unfold partV at he⊢
 rw[hb]at he⊢
 simp only[cond_false]at he⊢
 obtain rfl:v=octV (foldW b p):=g3
 have e1:(octV (foldW b p)).1=false:=rfl
 rw[e1]at he⊢
 simp only[cond_false]at he⊢
 refine⟨_,by rw[he];rfl,g1,hp,rfl⟩
theorem walk_oct: ∀(sd:List Int) {p:List Int} {v:Value.D},Den false b t0 l p v→l.length<65536→In02 sd→ ∃v',walkL (v,l,0) sd=(v',l,0)∧Den false b t0 l (sd.reverse++p) v':=by
 intro sd
 induction sd with
 |nil=>intro p v h _ _;exact⟨v,rfl,h⟩
 |cons i sd ih=>
  intro p v h hl hs
  obtain⟨i0,i2⟩:=hs i (by simp)
  obtain⟨v1,a1,a3⟩:=step_oct h hl i0 i2
  obtain⟨v2,b1,b3⟩:=ih a3 hl (fun x hx=>hs x (by simp [hx]))
  refine⟨v2, ?_,by rw[List.reverse_cons,List.append_assoc];exact b3⟩
  rw[walkL,←b1,←a1]
  rfl
theorem key_oct {h k:Int} {s:Subset.D} (hd:Den false b t0 l [] m) (hl:l.length<65536) (hn:noKey l h k m s=false) (h1:(pathI h 1 s.1).2=0) (h2:s.2≠0→(pathI h s.1 s.2).2=0):
 ∃v,keyV l h k m s=(v,l,0)∧Den false b t0 l (keyP h k s).reverse v:=by
 obtain⟨v,a1,a3⟩:=walk_oct (keyP h k s) hd hl (keyP_02 h k s)
 refine⟨v, ?_,by rw[List.append_nil]at a3;exact a3⟩
 unfold keyV
 rw[hn,hd.start,labelW_ok h1 h2]
 have e:(bif k != 1 then endW (stepW (walkL (m,l,0) (labP h s)) 2)else endW (walkL (m,l,0) (labP h s)))=endW (walkL (m,l,0) (keyP h k s)):=by
  unfold keyP
  rw[walkL_app]
  cases k != 1<;>rfl
 rw[cond_false,e,a1]
 rfl
theorem wrap_oct {b':Block.D} {t0':Nat} {p:List Int} {key w:Value.D} (hk:Den false b t0 l p key) (hw:Den false b' t0' l [] w) (hf:WF Value w):
 ∃x,wrapV l key w=(x,l,0)∧Opens false l key w x:=by
 obtain⟨f1,f2,f3,f4,_⟩:=hk.facts
 obtain⟨g1,g2,g3,g4,_⟩:=hw.facts
 have hz:isV l [false,false] [key,w]=0:=isV_two.2 ⟨f1,g1,f2,g2,by rw[g4,f4]⟩
 unfold wrapV
 rw[hz,f4]
 simp only[bne_self_eq_false,cond_false]
 obtain rfl:key=octV (foldW b p):=hk.std
 obtain rfl:w=octV (foldW b' []):=hw.std
 exact⟨_,rfl,_,_,rfl,rfl,hf.2.2.1,rfl⟩
theorem Sent.next0 {h k:Int} {c:List Subset.D} {v:List Value.D} {out:List Part.D} {j:Nat} {key x:Value.D} (hm:Sent false b t0 l h k c v out j) (hj:j<c.length) (hd:Den false b t0 l (keyP h k (sAt c j)).reverse key) (ho:Opens false l key (vaT v j) x):
 Sent false b t0 l h k c v (pS2 (pS1 out j (sAt c j)) j x) (j+1):=by
 have:=Sent.next (r:=[]) hm hj (by rw[List.append_nil];exact hd) (by rw[List.append_nil];exact ho)
 rwa [List.append_nil]at this
theorem someR_oct {h k:Int} {c:List Subset.D} {v:List Value.D} (hc: ∀s∈c,mayI h k s=(true,0)∧IntKind.u64.has s.1∧IntKind.u64.has s.2) (hd:Den false b t0 l [] m) (hl:l.length<65536)
 (hv: ∀q:Nat,q<c.length→WF Value (vaT v q)∧ ∃bw tw,Den false bw tw l [] (vaT v q)):
 ∀(n j:Nat) (out:List Part.D),j+n=c.length→Sent false b t0 l h k c v out j→ ∃out',someR h k m c v n j l out=(false,l,out',0,j+n)∧Sent false b t0 l h k c v out' c.length:=by
 intro n
 induction n with
 |zero=>
  intro j out hj hm
  exact⟨out,rfl,by rw[←hj];exact hm⟩
 |succ n ih=>
  intro j out hj hm
  have hjc:j<c.length:=by omega
  have hs:sAt c j∈c:=by
   unfold sAt
   rw[Int.toNat_natCast,List.getD_eq_getElem?_getD,List.getElem?_eq_getElem hjc,Option.getD_some]
   exact List.getElem_mem hjc
  obtain⟨may,u1,u2⟩:=hc _ hs
  obtain⟨p0,p1,p2⟩:=path_root u1 u2 (may_sub may).1
  have hn:noKey l h k m (sAt c j)=false:=by
   unfold noKey
   rw[hd.startE,may];rfl
  obtain⟨key,a1,a3⟩:=key_oct hd hl hn p1 p2
  obtain⟨hwf,bw,tw,hw⟩:=hv j hjc
  obtain⟨x,b1,b4⟩:=wrap_oct a3 hw hwf
  obtain⟨out',c1,c4⟩:=ih (j+1) (pS2 (pS1 out j (sAt c j)) j x) (by omega) (hm.next0 hjc a3 b4)
  refine⟨out', ?_,c4⟩
  rw[someR,a1]
  simp only[bne_self_eq_false,cond_false]
  rw[b1]
  simp only[bne_self_eq_false,cond_false]
  rw[c1,show j+1+n=j+(n+1) by omega]
theorem some_oct {h k:Int} {u:List Int} {c:List Subset.D} {v:List Value.D} (hd:Den false b t0 l [] m) (hc:CovOk h k u c) (h0:0≤h) (hl:l.length<65536) (hvl:v.length=c.length)
 (hv: ∀q:Nat,q<c.length→WF Value (vaT v q)∧ ∃bw tw,Den false bw tw l [] (vaT v q)):
 ∃out,someV l h k m c v=(out,l,0)∧Sent false b t0 l h k c v out c.length:=by
 have hn:noSome l m c v=false:=by
  unfold noSome
  rw[hvl,hd.facts.2.2.2.1,op_true hd]
  simp
 have hb:badSome l h k m c v=false:=by
  unfold badSome
  have e1:c.any (fun s=>oddS h k s)=false:=by
   rw[List.any_eq_false]
   intro s hs
   unfold oddS
   rw[(hc.may h0 s hs).1];decide
  have e2:v.any (fun s=>shutV l (flatV m) s)=false:=by
   rw[List.any_eq_false]
   intro s hs
   obtain⟨q,hq,rfl⟩:=List.getElem_of_mem hs
   obtain⟨_,bw,tw,hw⟩:=hv q (by omega)
   have e:vaT v (q:Int)=v[q]:=by unfold vaT;simp [hq]
   rw[e]at hw
   unfold shutV
   have:(flatV m).1=false:=hd.facts.2.2.2.1
   rw[this,op_true hw];decide
  rw[e1,e2];rfl
 obtain⟨out,c1,c4⟩:=someR_oct (b:=b) (t0:=t0) (m:=m) (hc.may h0) hd hl hv c.length 0 (List.replicate c.length (Part:Ty).dflt) (by omega) ⟨by simp,fun q hq=>absurd hq (Nat.not_lt_zero q)⟩
 have hX:someX l h k m c v=(false,l,out,0,0+c.length):=by
  unfold someX
  rw[Int.toNat_natCast];exact c1
 refine⟨out, ?_,c4⟩
 unfold someV
 rw[hn,hb,hX];rfl
end
theorem plain_octC {l:List Term.D} {v:Value.D} (h:checkV l v=0) (hs:v.1=false):(v.2.1 =true∧v=sealV v.2.2.2.1)∨(v.2.1 =false∧v=octV v.2.2.1):=by
 have h2:=(checkV_zero.1 h).2
 have hi:isSym l v=false:=by unfold isSym;rw[hs];rfl
 unfold plainV at h2
 rw[hi]at h2
 cases hb:v.2.1 with
 |true=>rw[hb]at h2;exact .inl ⟨rfl,h2⟩
 |false=>rw[hb]at h2;exact .inr ⟨rfl,h2⟩
theorem den_ofC {l:List Term.D} {v:Value.D} (h:startE l v=0): ∃sym b t0,Den sym b t0 l [] v:=by
 unfold startE at h
 cases hb:b51 l v with
 |true=>rw[hb]at h;cases h
 |false=>
  rw[hb]at h
  have hc:checkV l v=0:=h
  have hg:GoodL l:=checkL_iff.1 (checkV_zero.1 hc).1
  unfold b51 at hb
  rw[hc]at hb
  simp only[beq_self_eq_true,cond_true]at hb
  cases hs:v.1 with
  |true=>
   obtain⟨e,h0,h1⟩:=plain_sym hc hs
   obtain⟨t,ht⟩:=Int.eq_ofNat_of_zero_le h0
   rw[ht]at e h1
   have hk:((tAt l v.2.2.2.2).1==5)=false:=by
    rw[hs]at hb
    cases h2:v.2.1 with
    |true=>rw[h2]at hb;cases hb
    |false=>rw[h2]at hb;exact hb
   rw[ht]at hk
   have hlt:t<l.length:=by simpa using h1
   have hx:l[t]? =some l[t]:=List.getElem?_eq_getElem hlt
   refine⟨true,(0,0),t,hg,fun x hx=>(by cases hx),t,e, ?_⟩
   refine⟨rfl,l[t],hx, ?_⟩
   rw[tAt_get hx]at hk
   simpa using hk
  |false=>
   rcases plain_octC hc hs with⟨h2,e⟩|⟨h2,e⟩
   ·rw[h2]at hb;cases hb
   ·exact⟨false,v.2.2.1,0,hg,fun x hx=>(by cases hx),e⟩
theorem atom_law {sym:Bool} {l:List Term.D} (hg:GoodL l) (hl:l.length<65536) {n:Int} (n0:0≤n) (n1:n≤1048576) {b:Block.D} (hb:WF Block b):
 ∃v r,atomV l sym n b=(v,l++r,0)∧r.length≤1∧WF Value v∧(∃b' t',Den sym b' t' (l++r) [] v)∧(sym=false→v=octV b∧r=[])∧(sym=true→ ∃i:Nat,v=symV i∧(l++r)[i]? =some (1,n,0)):=by
 have z:IntKind.u64.has 0:=⟨by decide,by decide⟩
 have z2:IntKind.i64.has 0:=⟨by decide,by decide⟩
 have hnil:In02 []:=fun x hx=>by cases hx
 cases sym with
 |true=>
  have hm:mayB (1,n,0) l.length=true:=by
   unfold mayB mayBad
   simp only[decide_eq_false (show ¬((1:Int)<1) by decide),decide_eq_false (show ¬((1:Int)>5) by decide),cond_false]
   show(bif decide (n≥0)then decide (n≤1048576)else false)=true
   rw[decide_eq_true (show n≥0 by omega),decide_eq_true n1];rfl
  have h0:=madeV_may hg hm hl
  obtain⟨i,r,e,_,g2,hget,_⟩:=madeV_ok h0
  have hlen:=madeV_len l (1,n,0)
  rw[e]at hlen
  simp only[List.length_append]at hlen
  have hi:=(List.getElem?_eq_some_iff.1 hget).1
  have hi2:=g2.1
  refine⟨symV i,r,e,by omega,⟨trivial,trivial,⟨z,z⟩,⟨⟨z,z⟩,⟨z,z⟩⟩, ?_⟩,⟨(0,0),i,g2,hnil,i,rfl,rfl,(1,n,0),hget,by show(1:Int)≠5;decide⟩,(fun h=>by cases h),fun _=>⟨i,rfl,hget⟩⟩
  show IntKind.i64.has (i:Int)
  exact⟨by show(-9223372036854775808:Int)≤i;omega,by show(i:Int)≤9223372036854775807;omega⟩
 |false=>
  refine⟨octV b,[], ?_,Nat.zero_le _,⟨trivial,trivial,hb,⟨⟨z,z⟩,⟨z,z⟩⟩,z2⟩,⟨b,0,by rw[List.append_nil];exact⟨hg,hnil,rfl⟩⟩,(fun _=>⟨rfl,rfl⟩),(fun h=>by cases h)⟩
  unfold atomV
  rw[checkL_iff.2 hg,List.append_nil];rfl
structure SentC (c c':CenT.D) (b:Block.D) (x:HeadT.D) (key:Value.D) (r:List Term.D):Prop where
 same:c'=(cH c,cK c,cY c,cM c,cR c,cE c+1,cD c,cA c+1,cL c++r)
 hdr:cH c=x.2.1 ∧cK c=x.1∧x.2.2.1 =cE c+1
 rlen:r.length≤7610
 cov:CovOk (cH c) (cK c) (rL (cR c)) (coverI (cH c) (cK c) (rL (cR c))).1∧(coverI (cH c) (cK c) (rL (cR c))).2=0
 high:1≤cH c
 kden: ∃bk tk,Den (cY c) bk tk (cL c++r) [] key
 atom:cY c=true→ ∃i:Nat,key=symV i∧(cL c++r)[i]? =some (1,cA c,0)
 oct:cY c=false→key=octV ((cD c).getD (cA c).toNat (Block:Ty).dflt)∧r=[]
 sent: ∃bm tm,Den (cY c) bm tm (cL c++r) [] (cM c)∧Sent (cY c) bm tm (cL c++r) (cH c) (cK c) (coverI (cH c) (cK c) (rL (cR c))).1 (List.replicate (coverI (cH c) (cK c) (rL (cR c))).1.length key) (x.2.2.2.1) (coverI (cH c) (cK c) (rL (cR c))).1.length
 pay: ∃text,Opens (cY c) (cL c++r) key text x.2.2.2.2 ∧(∃bt tt,Den (cY c) bt tt (cL c++r) [] text)∧(cY c=false→text=octV b)∧(cY c=true→ ∃i:Nat,text=symV i∧(cL c++r)[i]? =some (1,524288+(cE c+1),0))
theorem Sent.mono {sym:Bool} {bm:Block.D} {tm:Nat} {l r:List Term.D} {h k:Int} {c:List Subset.D} {v:List Value.D} {out:List Part.D} {n:Nat} (hs:Sent sym bm tm l h k c v out n) (hg:GoodL (l++r)):Sent sym bm tm (l++r) h k c v out n:=
 ⟨hs.1,fun q hq=>by obtain⟨key,x,e,d,o⟩:=hs.2 q hq;exact⟨key,x,e,d.mono hg,o.mono r⟩⟩
theorem mayI_sch {h k:Int} (h0:(mayI h k (1,0)).2=0):schE h k=0:=by
 unfold mayI mayB3 at h0
 cases h1:schE h k != 0 with
 |true=>rw[h1]at h0;exact absurd (show(1:Int)=0 from h0) (by decide)
 |false=>simpa using h1
theorem getD_wf {l:List Block.D} (h: ∀x∈l,WF Block x) (n:Nat):WF Block (l.getD n (Block:Ty).dflt):=by
 rw[List.getD_eq_getElem?_getD]
 cases hx:l[n]? with
 |none=>exact⟨⟨by decide,by decide⟩,⟨by decide,by decide⟩⟩
 |some x=>exact h x (List.mem_of_getElem? hx)
theorem send_law {c:CenT.D} {b:Block.D} (hk:ChkOk c) (hwu: ∀y∈rL (cR c),IntKind.u64.has y) (hwd: ∀y∈cD c,WF Block y) (hb:WF Block b) (h8:cH c≤8) (h20:(rL (cR c)).length≤20) (hl:(cL c).length≤1900) (hep:cE c≠lastI (cY c)) (hat:cA c≠(cD c).length):
 ∃c' x key r,sendI c b=((x,key,0),c')∧SentC c c' b x key r:=by
 have hE0:=hk.ep0
 have hE1:=hk.ep1
 have hA0:=hk.at0
 have hA1:=hk.at1
 have hD:=hk.draws
 have hlast:lastI (cY c)≤1099511627776:=by unfold lastI;cases cY c<;>decide
 have hE2:cE c+1≤lastI (cY c):=by omega
 obtain⟨sym,bm,tm,dm⟩:=den_ofC hk.start
 obtain rfl:sym=cY c:=dm.facts.2.2.2.1.symm.trans hk.kind
 obtain⟨_,hlok⟩:=roll_ok hk.roll
 have hlok:lokB (cH c) (rL (cR c))=true:=by have:=hlok;rw[hk.high]at this;exact this
 obtain⟨cv1,cv2⟩:=cover_law (mayI_sch hk.may) hlok hwu
 obtain⟨_,_,_,hh1,_⟩:=cover_ok hwu cv1
 have hcl:=cover_len hwu cv1 h8 h20
 obtain⟨C,hC⟩: ∃C,C=(coverI (cH c) (cK c) (rL (cR c))).1:=⟨_,rfl⟩
 obtain⟨key,r1,e1,a1,w1,⟨b1,t1,d1⟩,o1,s1⟩:=atom_law (sym:=cY c) dm.good (by omega) (n:=cA c) (by omega) (by omega) (getD_wf hwd (cA c).toNat)
 have hwr:IntKind.i64.wrap (cE c+1)=cE c+1:=wrap64 (by omega) (by omega)
 have hwa:IntKind.i64.wrap (cA c+1)=cA c+1:=wrap64 (by omega) (by omega)
 have hd:drawV (setE c)=((key,0),setAL (setE c) (cA c+1) (cL c++r1)):=by
  unfold drawV
  have h1:(cA (setE c)==((cD (setE c)).length:Int))=false:=beq_eq_false_iff_ne.2 hat
  have h2:atm (setE c)=(key,cL c++r1,0):=e1
  rw[h1,h2]
  show((key,(0:Int)),setAL (setE c) (IntKind.i64.wrap (cA c+1)) (cL c++r1))=_
  rw[hwa]
 obtain⟨n,hn⟩: ∃n,n=payN (setAL (setE c) (cA c+1) (cL c++r1)):=⟨_,rfl⟩
 have hn':(0≤n∧n≤1048576)∧(cY c=true→n=524288+(cE c+1)):=by
  have e:n=bif cY c then IntKind.i64.wrap (524288+IntKind.i64.wrap (cE c+1))else 0:=hn
  rw[hwr]at e
  cases hy:cY c with
  |true=>
   rw[hy]at e hE2
   have hE2:cE c+1≤524287:=hE2
   have e:n=IntKind.i64.wrap (524288+(cE c+1)):=e
   rw[wrap64 (by omega) (by omega)]at e
   exact⟨⟨by omega,by omega⟩,fun _=>e⟩
  |false=>rw[hy]at e;have e:n=0:=e;exact⟨⟨by omega,by omega⟩,fun h=>by cases h⟩
 have hl1:(cL c++r1).length≤1901:=by rw[List.length_append];omega
 obtain⟨text,r2,e2,a2,w2,⟨b2,t2,d2⟩,o2,s2⟩:=atom_law (sym:=cY c) d1.good (by omega) hn'.1.1 hn'.1.2 hb
 have dm2:=(dm.mono d1.good).mono d2.good
 have dk2:=d1.mono d2.good
 have hl2:(cL c++r1++r2).length≤1902:=by rw[List.length_append];omega
 have hva: ∀q:Nat,q<C.length→vaT (List.replicate C.length key) q=key:=fun q hq=>by
  unfold vaT
  rw[Int.toNat_natCast,List.getD_eq_getElem?_getD,List.getElem?_replicate,if_pos hq];rfl
 rw[←hC]at hcl cv2
 obtain⟨r3,out,e3,a3,g3,sn⟩:=some_law (v:=List.replicate C.length key) dm2 cv2 (by omega) h8 hcl (by omega) (List.length_replicate ..) (fun q hq=>by rw[hva q hq];exact⟨w1,_,_,dk2⟩)
 have hS:sendV (cL c++r1++r2) (cH c) (cK c) (cM c) (rL (cR c)) key=(out,cL c++r1++r2++r3,0):=by
  unfold sendV
  rw[cv1,←hC,e3];rfl
 have dk3:=dk2.mono g3
 have dt3:=d2.mono g3
 have hl3:(cL c++r1++r2++r3).length≤9502:=by rw[List.length_append];omega
 obtain⟨x,r4,e4,a4,g4,op⟩:=wrap_run dk3 dt3 w2 (by omega)
 have hr:cL c++r1++r2++r3++r4=cL c++(r1++r2++r3++r4):=by simp [List.append_assoc]
 refine⟨(cH c,cK c,cY c,cM c,cR c,cE c+1,cD c,cA c+1,cL c++(r1++r2++r3++r4)),(cK c,cH c,cE c+1,out,x),key,r1++r2++r3++r4, ?_, ?_⟩
 ·unfold sendI
  rw[hd]
  simp only[bne_self_eq_false,cond_false]
  rw[←hn]
  unfold restV
  have t1:txt (setAL (setE c) (cA c+1) (cL c++r1)) n b=(text,cL c++r1++r2,0):=e2
  have p1:pts (setAL (setE c) (cA c+1) (cL c++r1)) key n b=(out,cL c++r1++r2++r3,0):=by
   unfold pts
   rw[t1];exact hS
  have q1:wrp (setAL (setE c) (cA c+1) (cL c++r1)) key n b=(x,cL c++r1++r2++r3++r4,0):=by
   unfold wrp
   rw[p1,t1];exact e4
  rw[t1,p1,q1]
  simp only[bne_self_eq_false,cond_false]
  unfold hdr setL setAL setE
  rw[hwr,hr]
 ·have hz:cY c=false→r1++r2++r3++r4=[]:=fun hy=>by
   have z1:=(o1 hy).2
   have z2:=(o2 hy).2
   subst z1 z2
   rw[hy]at dm2 dk2 d2 dk3 dt3
   obtain⟨out',f1,_⟩:=some_oct (v:=List.replicate C.length key) dm2 cv2 (by omega) (by omega) (List.length_replicate ..) (fun q hq=>by rw[hva q hq];exact⟨w1,_,_,dk2⟩)
   rw[e3]at f1
   have z3:r3=[]:=by
    have:=congrArg (fun y:List Part.D×List Term.D×Int=>y.2.1.length) f1
    simp at this
    exact this
   subst z3
   obtain⟨x',f2,_⟩:=wrap_oct dk3 dt3 w2
   rw[e4]at f2
   have z4:r4=[]:=by
    have:=congrArg (fun y:WS=>y.2.1.length) f2
    simp at this
    exact this
   rw[z4];rfl
  refine⟨rfl,⟨rfl,rfl,rfl⟩,by simp only[List.length_append];omega,⟨by rw[←hC];exact cv2,cv1⟩,hh1,⟨_,_,hr▸dk3.mono g4⟩,fun hy=> ?_,fun hy=>⟨(o1 hy).1,hz hy⟩,⟨bm,tm,hr▸(dm2.mono g3).mono g4,by rw[←hC];exact hr▸Sent.mono sn g4⟩,text,hr▸op,⟨_,_,hr▸dt3.mono g4⟩,fun hy=>(o2 hy).1,fun hy=> ?_⟩
  ·obtain⟨i,k1,k2⟩:=s1 hy
   have:=(List.getElem?_eq_some_iff.1 k2).1
   exact⟨i,k1,by rw[←hr,List.append_assoc,List.append_assoc,List.getElem?_append_left this];exact k2⟩
  ·obtain⟨i,k1,k2⟩:=s2 hy
   have:=(List.getElem?_eq_some_iff.1 k2).1
   exact⟨i,k1,by rw[←hr,List.append_assoc,List.getElem?_append_left this,k2,hn'.2 hy]⟩
theorem anyK_any {α:Type} (d:α) (p:α→Bool): ∀(l k:List α),anyK (fun j:Nat=>p ((k++l).getD ((j:Int)).toNat d)) l.length k.length=l.any p:=by
 intro l
 induction l with
 |nil=>intro k;rfl
 |cons a l ih=>
  intro k
  have:=ih (k++[a])
  rw[List.length_append,List.append_assoc]at this
  rw[List.length_cons,anyK,List.any_cons]
  have e:p ((k++a::l).getD ((k.length:Int)).toNat d)=p a:=by rw[Int.toNat_natCast];simp
  rw[e]
  have this:anyK (fun j:Nat=>p ((k++a::l).getD ((j:Int)).toNat d)) l.length (k.length+1)=l.any p:=this
  rw[this]
  cases p a<;>rfl
def mkC (c:CenT.D) (i:Int):List Entry.D×List Term.D×Int:=makeV (cL c) (cH c) (cK c) (cM c) i
def Γ821:Orc:=orc [(N839,s839),(N317,s317),(N853,s853)]
def fewB (c:CenT.D):Bool:=
 bif bif bif bif decide (cH c≤4)then true else decide (cH c>32)then decide (((cL c).length:Int)≤300)else false then decide (((rL (cR c)).length:Int)≤20)else false then
  bif decide (((cD c).length:Int)≤60)then true else bif decide (((cD c).length:Int)>4096)then decide (((cD c).length:Int)<4100)else false else false
theorem r815 (c:CenT.D):run (orc []) noL [] F815 (encA [.v CenT] c) []=some (.one (.bool (fewB c))):=by kernel_rfl
def s815:Sp:= .fn [.v CenT] fun c=>(true,.one (.bool (fewB c)))
theorem g815:GoodS Tryz.prog N815 s815:=by
 refine good (.nil _) H815 rfl (by kernel_rfl) noL [] (noLoops (by kernel_rfl)) [.v CenT] (by decide) [] _ fun c r hw e=> ?_
 cases e
 exact r815 c
def pP (x:List Entry.D×CenT.D×Int):AV:= .tup [(false,[.sl true Entry none x.1]),(true,enc CenT true x.2.1),(false,[.int .i64 x.2.2])]
theorem r821 (c:CenT.D) (i:Int):run Γ821 noL [] F821 (encA [.v CenT,.v U] (c,i)) [.sl true Entry,wCen,.id]=
 bif small24 (cL c).length then bif chkC c != 0 then some (pP ([],zeroC,chkC c))else bif decide ((cL c).length≤1000000)then bif (mkC c i).2.2 != 0 then some (pP ([],zeroC,(mkC c i).2.2))else
  bif cenS c then some (pP ((mkC c i).1,setL c (mkC c i).2.1,0))else none else none else none:=by kernel_rfl
def provC (c:CenT.D) (i:Int):List Entry.D×CenT.D×Int:=
 bif chkC c != 0 then([],zeroC,chkC c)else bif (mkC c i).2.2 != 0 then([],zeroC,(mkC c i).2.2)else((mkC c i).1,setL c (mkC c i).2.1,0)
def s821:Sp:= .fn [.v CenT,.v U] fun x=>(small24 (cL x.1).length,pP (provC x.1 x.2))
theorem g821:GoodS Tryz.prog N821 s821:=by
 refine good (.cons g839 (.cons g317 (.cons g853 (.nil _)))) H821 rfl (by kernel_rfl) noL [] (noLoops (by kernel_rfl)) [.v CenT,.v U] (by decide) [.sl true Entry,wCen,.id] _ fun x r hw e=> ?_
 obtain⟨c,i⟩:=x
 simp only[Prod.mk.injEq]at e
 obtain⟨e1,rfl⟩:=e
 refine(r821 c i).trans ?_
 rw[e1]
 unfold provC
 simp only[cond_true]
 cases h1:chkC c != 0 with
 |true=>rfl
 |false=>
  have hk:=chk_ok (c:=c) (by simpa using h1)
  have:=hk.len.2
  rw[decide_eq_true (show(cL c).length≤1000000 by omega),hk.cenS]
  cases (mkC c i).2.2 != 0<;>rfl
def Γ814:Orc:=orc [(N836,s836),(N817,s817)]
theorem r814:run Γ814 noL [] F814 [] []=some (.one (.bool true)):=by kernel_rfl
def s814:Sp:= .fn [] fun _=>(true,.one (.bool true))
theorem g814:GoodS Tryz.prog N814 s814:=by
 refine good (.cons g836 (.cons g817 (.nil _))) H814 rfl (by kernel_rfl) noL [] (noLoops (by kernel_rfl)) [] (by decide) [] _ fun x r hw e=> ?_
 cases e
 exact r814
def oB7 (b:Bool):Option AV:=some (.one (.bool b))
def two:List Term.D:=[(1,0,0),(1,1,0)]
def Γ811:Orc:=orc [(N814,s814),(N815,s815),(N821,s821),(N817,s817),(N830,s830),(N18,s18)]
abbrev live811:List (Nat×Dir):=[(1,.keep),(3,.keep),(5,.keep),(6,.keep),(7,.keep),(11,.keep),(12,.keep),(14,.keep),(15,.keep),(16,.keep),(70,.keep),(71,.keep),(72,.keep)]
def vs811 (i:Int) (cc cp:List SV) (r:Bool) (cx ck cg:List SV) (l:List Term.D) (g:Int) (u:List Int) (n j:Int):List AV:=
 [.one (.int .u64 i),.own cc,.own cp,.one (.bool r),.one (.bool true),.own cx,.own ck,.own cg,.one (.sl true Term none l),.one (.int .i64 g),.one (.sl false U none u),.one (.int .i64 n),.one (.int .i64 j)]
noncomputable abbrev lo811 (Λ:Lam AV) (K:AE→List AV→Option AV) (fuel:Nat) (vs:List AV):Option AV:=loopN (aexec tb Γ811 Λ ⟨117,0,[(0,live811)]⟩ (loop1 F811).2 0) 117 0 live811 K fuel vs
theorem step811 (i:Int) (cc cp cx ck cg:List SV) (l:List Term.D) (g:Int) (u:List Int) (n j:Int) (Λ:Lam AV) (K:AE→List AV→Option AV) (fuel:Nat):lo811 Λ K (fuel+1) (vs811 i cc cp false cx ck cg l g u n j)=
 bif decide (j<n)then bif inB j u.length then bif bsAu u j==i then K .ret (vs811 i cc cp (g==4) cx ck cg l g u n j)else lo811 Λ K fuel (vs811 i cc cp false cx ck cg l g u n (IntKind.i64.wrap (j+1)))else none else K (.exit 0) (vs811 i cc cp false cx ck cg l g u n j):=by kernel_rfl
def Λ811:Lam AV:=fun _ vs K=>
 match vs with
 |[.one (.int .u64 i),.own cc,.own cp,.one (.bool false),.one (.bool true),.own cx,.own ck,.own cg,.one (.sl true (.pair (.int .i64) (.pair (.int .i64) (.int .i64))) none l),.one (.int .i64 g),.one (.sl false (.int .u64) none u),.one (.int .i64 n),.one (.int .i64 0)]=>
  bif decide (n=u.length)&&decide ((u.length:Int)≤9223372036854775807)then allK (fun j=>K .ret (vs811 i cc cp (g==4) cx ck cg l g u n j)) (K (.exit 0) (vs811 i cc cp false cx ck cg l g u n n)) (fun j=>bsAu u j==i) u.length 0 else none
 |_=>none
theorem loop811:LoopP tb Γ811 Λ811 ⟨117,0,[(0,live811)]⟩ (loop1 F811):=by
 intro vs K out e
 have hcur:(loop1 F811).1=0:=by kernel_rfl
 rw[hcur]at e⊢
 unfold Λ811 at e
 split at e
 ·rename_i i cc cp cx ck cg l g u n
  cases hc:decide (n=u.length)&&decide ((u.length:Int)≤9223372036854775807)with
  |false=>rw[hc]at e;cases e
  |true=>
   rw[hc]at e
   simp only[cond_true]at e
   simp only[Bool.and_eq_true,decide_eq_true_eq]at hc
   obtain⟨rfl,hmax⟩:=hc
   refine upLoop (α:=Unit) (n:=u.length) (F:=fun fuel _ j=>lo811 Λ811 K fuel (vs811 i cc cp false cx ck cg l g u u.length j))
    (G:=fun j _=>allK (fun j=>K .ret (vs811 i cc cp (g==4) cx ck cg l g u u.length j)) (K (.exit 0) (vs811 i cc cp false cx ck cg l g u u.length u.length)) (fun j=>bsAu u j==i) (u.length-j) j)
    (fun fuel _=> ?_) (fun _ j hj=> ?_) u.length 0 () out (by omega) e
   ·simp only[step811,nlt_dec,cond_false,Nat.sub_self,allK]
   ·have hm:u.length-j=(u.length-(j+1))+1:=by omega
    have hstep: ∀fuel,lo811 Λ811 K (fuel+1) (vs811 i cc cp false cx ck cg l g u u.length j)=bif bsAu u j==i then K .ret (vs811 i cc cp (g==4) cx ck cg l g u u.length j)else lo811 Λ811 K fuel (vs811 i cc cp false cx ck cg l g u u.length ((j+1:Nat):Int)):=by
     intro fuel
     rw[step811,lt_dec hj,inB_lt hj,wrap64 (n:=(j:Int)+1) (by omega) (by omega)]
     rfl
    cases hx:bsAu u j==i with
    |true=>right;intro fuel;rw[hstep,hx];simp only[hm,allK,hx,cond_true]
    |false=>
     left;refine⟨(),fun fuel=> ?_, ?_⟩
     ·rw[hstep,hx];rfl
     ·simp only[hm,allK,hx,cond_false]
 ·cases e
@[reducible] def A811:List AK:=[.v CenT,.v U,.v Block]
abbrev hL (x:HeadT.D):List Part.D:=x.2.2.2.1
abbrev hP (x:HeadT.D):Value.D:=x.2.2.2.2
def fin11 (c:CenT.D) (b:Block.D) (key pay:Value.D) (o:WS):Option AV:=
 oB7 (bif bif bif o.2.2 ==0 then valEq o.1 key else false then(unwrapV o.2.1 o.1 pay).2==0 else false then bif cY c then true else valEq (unwrapV o.2.1 o.1 pay).1 (octV b)else false)
def opn11 (c:CenT.D) (i:Int) (b:Block.D) (x:HeadT.D) (key:Value.D) (o:WS):Option AV:=
 bif decide (((rL (cR c)).length:Int)=(rL (cR c)).length)&&decide (((rL (cR c)).length:Int)≤9223372036854775807)then allK (fun j=>oB7 (o.2.2 ==4)) (fin11 c b key (hP x) o) (fun j=>bsAu (rL (cR c)) j==i) (rL (cR c)).length 0 else none
def snd11 (c:CenT.D) (i:Int) (b:Block.D) (s:List Entry.D) (z:HeadT.D×Value.D×CenT.D×Int):Option AV:=
 bif z.2.2.2 != 0 then oB7 (((hL z.1).length:Int)==0)else bif decide ((cL z.2.2.1).length≤1000000)&&decide ((hL z.1).length≤1000000)then opn11 c i b z.1 z.2.1 (openP (cL z.2.2.1) (cH z.2.2.1) (cK z.2.2.1) i s (hL z.1))else none
def law11 (c:CenT.D) (i:Int) (b:Block.D) (y:List Entry.D×CenT.D×Int):Option AV:=
 bif y.2.2 != 0 then oB7 true else bif small24 (cL y.2.1).length then snd11 c i b y.1 (sendC y.2.1 b)else none
theorem r811 (c:CenT.D) (i:Int) (b:Block.D):run Γ811 Λ811 [(0,live811)] F811 (encA A811 (c,i,b)) []=
 bif !fewB c then oB7 true else bif small24 (cL c).length then law11 c i b (provC c i)else none:=by kernel_rfl
section
variable {sym:Bool} {b:Block.D} {t0:Nat} {l:List Term.D} {m:Value.D}
theorem open_yes2 {h k i:Int} {u:List Int} {c:List Subset.D} {v:List Value.D} {out:List Part.D} {es:List Entry.D} (hd:Den sym b t0 l [] m) (hl:l.length≤50000) (h0:0≤h) (h8:h≤8) (hi:IntKind.u64.has i) (hc:CovOk h k u c)
 (hp:(pairsL h k i).2=0) (hn:noPr h k i=false) (hm:Made sym b t0 l h k (pairsL h k i).1 es (pairsL h k i).1.length) (hs:Sent sym b t0 l h k c v out c.length) (hf:(firstI h i c).2=0):
 ∃r,openP l h k i es out=(vaT v (firstI h i c).1,l++r,0)∧GoodL (l++r):=by
 obtain⟨q,hq,hlt,hmem,hh⟩:=first_has hc h0 hi hf
 obtain⟨may,u1,u2⟩:=hc.may h0 _ hmem
 obtain⟨key,r,k1,k2⟩:=key_run hd hl h8 u1 u2 hi hp hn hm may hh
 obtain⟨key',x,e,d1,d2⟩:=hs.2 q hlt
 have hkk:key'=key:=(d1.mono k2.good).uniq k2
 subst hkk
 have hu:=unwrap_run k2 (d2.mono r)
 have hK:opK l h k i es (fstS out)=(key',l++r,0):=by
  unfold opK
  rw[sent_fst hs,hq];exact k1
 have hpA:pAt out (firstI h i c).1=(sAt c q,x):=by
  unfold pAt
  rw[hq,Int.toNat_natCast];exact e
 have hU:opU l h k i es out (fstS out)=(vaT v (firstI h i c).1,0):=by
  unfold opU
  rw[hK,sent_fst hs,hpA,hq];exact hu
 refine⟨r, ?_,k2.good⟩
 unfold openP
 rw[hU,hK,sent_fst hs,hf];rfl
end
theorem Den.swap {sym:Bool} {b b':Block.D} {t t':Nat} {l l':List Term.D} {m:Value.D} (h:Den sym b t l [] m) (h':Den sym b' t' l' [] m) {l2:List Term.D} {p:List Int} {v:Value.D} (hd:Den sym b t l2 p v):Den sym b' t' l2 p v:=by
 cases sym with
 |true=>
  obtain⟨x,e,rfl,_⟩:=h.std
  obtain⟨x',e',rfl,_⟩:=h'.std
  have:(x:Int)=(x':Int):=congrArg (fun v:Value.D=>v.2.2.2.2) (e.symm.trans e')
  obtain rfl:x=x':=by omega
  exact⟨hd.good,hd.way,hd.std⟩
 |false=>
  have e:m=octV b:=h.std
  have e':m=octV b':=h'.std
  obtain rfl:b=b':=congrArg (fun v:Value.D=>v.2.2.1) (e.symm.trans e')
  exact⟨hd.good,hd.way,hd.std⟩
theorem Sent.swap {sym:Bool} {b b':Block.D} {t t':Nat} {l l':List Term.D} {m:Value.D} (h:Den sym b t l [] m) (h':Den sym b' t' l' [] m) {l2:List Term.D} {a k:Int} {c:List Subset.D} {v:List Value.D} {out:List Part.D} {n:Nat} (hs:Sent sym b t l2 a k c v out n):Sent sym b' t' l2 a k c v out n:=
 ⟨hs.1,fun q hq=>by obtain⟨key,x,e,d,o⟩:=hs.2 q hq;exact⟨key,x,e,h.swap h' d,o⟩⟩
theorem few_ok {c:CenT.D} (h:fewB c=true):(cH c≤4∨cH c>32)∧(cL c).length≤300∧(rL (cR c)).length≤20:=by
 unfold fewB at h
 cases h1:(bif decide (cH c≤4)then true else decide (cH c>32))with
 |false=>rw[h1]at h;cases h
 |true=>
 cases h2:decide (((cL c).length:Int)≤300)with
 |false=>rw[h1,h2]at h;cases h
 |true=>
 cases h3:decide (((rL (cR c)).length:Int)≤20)with
 |false=>rw[h1,h2,h3]at h;cases h
 |true=>
  have h2:=of_decide_eq_true h2
  have h3:=of_decide_eq_true h3
  refine⟨?_,by omega,by omega⟩
  cases h4:decide (cH c≤4)with
  |true=>exact .inl (of_decide_eq_true h4)
  |false=>rw[h4]at h1;exact .inr (of_decide_eq_true h1)
theorem ChkOk.h4 {c:CenT.D} (hk:ChkOk c) (hwu: ∀y∈rL (cR c),IntKind.u64.has y) (h:cH c≤4∨cH c>32):cH c≤4∧1≤cH c:=by
 obtain⟨_,hlok⟩:=roll_ok hk.roll
 have hlok:lokB (cH c) (rL (cR c))=true:=by have:=hlok;rw[hk.high]at this;exact this
 obtain⟨cv1,_⟩:=cover_law (mayI_sch hk.may) hlok hwu
 obtain⟨_,_,_,h1,h2⟩:=cover_ok hwu cv1
 exact⟨by omega,h1⟩
theorem any_mem {u:List Int} {i:Int}:(u.any fun y=>y==i)=true↔i∈u:=by
 rw[List.any_eq_true]
 exact⟨fun⟨y,hy,e⟩=>eq_of_beq e▸hy,fun h=>⟨i,h,beq_self_eq_true i⟩⟩
theorem law811 {c:CenT.D} {i:Int} {b:Block.D} (hw:WF CenT c) (hi:IntKind.u64.has i) (hb:WF Block b):
 (bif !fewB c then oB7 true else bif small24 (cL c).length then law11 c i b (provC c i)else none)=oB7 true:=by
 cases hf:fewB c with
 |false=>rfl
 |true=>
 obtain⟨f1,f2,f3⟩:=few_ok hf
 have hwu: ∀y∈rL (cR c),IntKind.u64.has y:=hw.2.2.2.2.1.2.2.1.2
 have hwd: ∀y∈cD c,WF Block y:=hw.2.2.2.2.2.2.1.2
 rw[small_of (show(cL c).length≤65536 by omega)]
 simp only[Bool.not_true,cond_false,cond_true]
 unfold provC
 cases h1:chkC c != 0 with
 |true=>unfold law11;simp only[cond_true];rw[h1];rfl
 |false=>
 have hk:=chk_ok (c:=c) (by simpa using h1)
 simp only[cond_false]
 cases h2:(mkC c i).2.2 != 0 with
 |true=>unfold law11;simp only[cond_true];rw[h2];rfl
 |false=>
 have hz:(makeV (cL c) (cH c) (cK c) (cM c) i).2.2 =0:=by
  have:(mkC c i).2.2 =0:=by simpa using h2
  exact this
 obtain⟨h4,hh1⟩:=hk.h4 hwu f1
 obtain⟨sym,bm,tm,dm⟩:=den_ofC hk.start
 obtain rfl:sym=cY c:=dm.facts.2.2.2.1.symm.trans hk.kind
 obtain⟨r0,e1,e2,e3,hp,hn,hm⟩:=made_run dm (by omega) (by omega) hz
 have hmk:(mkC c i).2.1 =cL c++r0:=e1
 simp only[cond_false]
 rw[hmk]
 unfold law11
 simp only[bne_self_eq_false,cond_false]
 obtain⟨a,ha⟩: ∃a,a=setL c (cL c++r0):=⟨_,rfl⟩
 rw[←ha]
 have haL:cL a=cL c++r0:=by rw[ha];rfl
 have hal:(cL a).length≤1470:=by rw[haL,List.length_append];omega
 rw[small_of (show(cL a).length≤65536 by omega)]
 simp only[cond_true]
 have hbad: ∀e:Int,(e != 0)=true→snd11 c i b (mkC c i).1 (zeroH,zeroV,zeroC,e)=oB7 true:=fun e he=>by
  unfold snd11
  rw[he];rfl
 unfold sendC
 cases g1:chkC a != 0 with
 |true=>exact hbad _ g1
 |false=>
 have hka:=chk_ok (c:=a) (by simpa using g1)
 simp only[cond_false]
 cases g2:cE a==lastI (cY a)with
 |true=>exact hbad 9 rfl
 |false=>
 simp only[cond_false]
 rcases Classical.em (cA a=((cD a).length:Int))with g3|g3
 ·have hd:(sendI a b).1.2.2 =10:=by
   unfold sendI drawV
   have h1:(cA (setE a)==((cD (setE a)).length:Int))=true:=beq_iff_eq.2 g3
   rw[h1];rfl
  rw[hd]
  exact hbad 10 rfl
 ·have haR:cR a=cR c:=by rw[ha];rfl
  have haD:cD a=cD c:=by rw[ha];rfl
  have haH:cH a=cH c:=by rw[ha];rfl
  have haK:cK a=cK c:=by rw[ha];rfl
  have haY:cY a=cY c:=by rw[ha];rfl
  have haM:cM a=cM c:=by rw[ha];rfl
  obtain⟨c',x,key,r,s1,sc⟩:=send_law hka (by rw[haR];exact hwu) (by rw[haD];exact hwd) hb (by rw[haH];omega) (by rw[haR];exact f3) (by omega) (by simpa using g2) g3
  rw[s1]
  simp only[bne_self_eq_false,cond_false]
  obtain⟨bm',tm',dm',sent⟩:=sc.sent
  have hwu': ∀y∈rL (cR a),IntKind.u64.has y:=by rw[haR];exact hwu
  obtain⟨cv,cv1⟩:=sc.cov
  have hcl:=cover_len hwu' cv1 (by rw[haH];omega) (by rw[haR];exact f3)
  unfold snd11
  have hc'L:cL c'=cL a++r:=by rw[sc.same]
  have hc'H:cH c'=cH c:=by rw[sc.same];exact haH
  have hc'K:cK c'=cK c:=by rw[sc.same];exact haK
  have hrl:=sc.rlen
  have hll:(cL a++r).length≤9080:=by rw[List.length_append];omega
  have hhl:(hL x).length=(coverI (cH a) (cK a) (rL (cR a))).1.length :=sent.1
  simp only[bne_self_eq_false,cond_false]
  rw[hc'L,hc'H,hc'K,decide_eq_true (show(cL a++r).length≤1000000 by omega),decide_eq_true (show(hL x).length≤1000000 by omega)]
  simp only[Bool.and_self,cond_true]
  unfold opn11
  rw[decide_eq_true (show((rL (cR c)).length:Int)=(rL (cR c)).length from rfl),decide_eq_true (show((rL (cR c)).length:Int)≤9223372036854775807 by omega)]
  simp only[Bool.and_self,cond_true]
  rw[allK_two]
  have hany:anyK (fun j=>bsAu (rL (cR c)) j==i) (rL (cR c)).length 0=(rL (cR c)).any fun y=>y==i:=anyK_any (0:Int) (fun y=>y==i) (rL (cR c)) []
  rw[hany]
  rw[haH,haK,haR]at cv
  rw[haH,haK,haR,haY]at sent
  rw[haY]at dm'
  obtain⟨n1,n2⟩:=first_in cv (by omega) hi hn
  cases hin:(rL (cR c)).any fun y=>y==i with
  |true=>
   have hin:=any_mem.1 hin
   rw[open_no sent (by rw[n1 hin];decide),n1 hin]
   rfl
  |false=>
   have hin: ¬i∈rL (cR c):=fun h=>by rw[any_mem.2 h]at hin;cases hin
   have hfs:=n2 hin
   have hGa:GoodL (cL a++r):=dm'.good
   have hGc:GoodL (cL c++r0++r):=haL▸hGa
   have dm1:Den (cY c) bm tm (cL a++r) [] (cM c):=by rw[haL];exact(dm.mono e3).mono hGc
   have hm1:Made (cY c) bm tm (cL a++r) (cH c) (cK c) (pairsL (cH c) (cK c) i).1 (mkC c i).1 (pairsL (cH c) (cK c) i).1.length :=by rw[haL];exact Made.mono hm hGc
   have hst:Sent (cY c) bm tm (cL a++r) (cH c) (cK c) (coverI (cH c) (cK c) (rL (cR c))).1 (List.replicate (coverI (cH c) (cK c) (rL (cR c))).1.length key) x.2.2.2.1 (coverI (cH c) (cK c) (rL (cR c))).1.length :=by
    rw[haM]at dm'
    exact Sent.swap dm' dm1 sent
   obtain⟨r',o1,o2⟩:=open_yes2 dm1 (by omega) (by omega) (by omega) hi cv hp hn hm1 hst hfs
   obtain⟨q,q1,q2,_⟩:=first_has cv (by omega) hi hfs
   have hva:vaT (List.replicate (coverI (cH c) (cK c) (rL (cR c))).1.length key) (firstI (cH c) i (coverI (cH c) (cK c) (rL (cR c))).1).1=key:=by
    rw[q1]
    unfold vaT
    rw[Int.toNat_natCast,List.getD_eq_getElem?_getD,List.getElem?_replicate,if_pos q2];rfl
   rw[o1,hva]
   unfold fin11
   obtain⟨text,p1,⟨bt,tt,p2⟩,p3,_⟩:=sc.pay
   obtain⟨bk,tk,kd⟩:=sc.kden
   have hu:unwrapV (cL a++r++r') key (hP x)=(text,0):=unwrap_run (kd.mono o2) (p1.mono r')
   simp only[cond_false]
   rw[hu,valEq_iff.2 rfl]
   cases hy:cY c with
   |true=>rfl
   |false=>rw[p3 (haY.trans hy),valEq_iff.2 rfl];rfl
theorem good811 (x:ADen A811):Good Tryz.prog N811 (encA A811 x) (.one (.bool true)):=by
 have g:GoodS Tryz.prog N811 (.fn A811 fun _=>(true,.one (.bool true))):=by
  refine good (.cons g814 (.cons g815 (.cons g821 (.cons g817 (.cons g830s (.cons g18 (.nil _))))))) H811 rfl (by kernel_rfl) Λ811 [(0,live811)] (oneLoop (p0:=loop1 F811) (by kernel_rfl) loop811) A811 (by decide) [] _ fun x r hw e=> ?_
  obtain⟨c,i,b⟩:=x
  cases e
  refine(r811 c i b).trans ?_
  exact law811 hw.1 hw.2.1 hw.2.2
 exact g.2.1 _ _ (by kernel_rfl)
end Go.AM.Seat
