import Derived.Test.YthnonmlhgafalaaGreatZM26
import Derived.Test.YthnonmlhgafalaaGreatZPlCov2
import Derived.Test.YthnonmlhgafalaaGreatZAmSortQ
import Derived.Test.YthnonmlhgafalaaGreatZAmNil
import Derived.Test.YthnonmlhgafalaaGreatZAmHot
set_option linter.unusedVariables false
set_option linter.unusedSimpArgs false
set_option maxRecDepth 100000
namespace Go.AM.Seat
open Go Go.AM Go.Proofs
theorem compact_spec {l:List Int} (h:l.Pairwise (· ≤ ·)):(compactL l).Pairwise (· < ·)∧ ∀x,x∈compactL l↔x∈l:=by
 have hat: ∀j (hj:j<l.length),l.toArray[j]! =l[j]:=fun j hj=>by simp [hj]
 have hle: ∀i j (hi:i<l.length) (hj:j<l.length),i≤j→l[i]≤l[j]:=fun i j hi hj hij=>by
  rcases Nat.lt_or_ge i j with h1|h1
  ·exact List.pairwise_iff_getElem.1 h i j hi hj h1
  ·obtain rfl:i=j:=by omega
   exact Int.le_refl _
 have hk: ∀j,Lib.keeps l.toArray j=true↔j=0∨ ¬l.toArray[j]! =l.toArray[j-1]! :=fun j=>by
  unfold Lib.keeps;simp
 unfold compactL Lib.compactUpTo
 have hsz:l.toArray.size=l.length:=by simp
 rw[hsz]
 constructor
 ·rw[List.pairwise_map]
  refine List.Pairwise.imp_of_mem (R:=fun a b=>a<b) ?_ (List.Pairwise.filter _ List.pairwise_lt_range)
  intro i j hi hj hij
  obtain⟨i1,i2⟩:=List.mem_filter.1 hi
  obtain⟨j1,j2⟩:=List.mem_filter.1 hj
  have i1:=List.mem_range.1 i1
  have j1:=List.mem_range.1 j1
  have j2:=((hk j).1 j2).resolve_left (by omega)
  rw[hat j j1,hat (j-1) (by omega)]at j2
  rw[hat i i1,hat j j1]
  have a:=hle i (j-1) i1 (by omega) (by omega)
  have b:=hle (j-1) j (by omega) j1 (by omega)
  omega
 ·intro x
  refine⟨fun hx=>compactL_mem (by unfold compactL Lib.compactUpTo;rw[hsz];exact hx),fun hx=> ?_⟩
  obtain⟨k,hk1,rfl⟩:=List.getElem_of_mem hx
  have key: ∀k (h:k<l.length),l[k]∈List.map (fun x=>l.toArray[x]!) (List.filter (Lib.keeps l.toArray) (List.range l.length)):=by
   intro k
   induction k with
   |zero=>
    intro h
    exact List.mem_map.2 ⟨0,List.mem_filter.2 ⟨List.mem_range.2 h,(hk 0).2 (.inl rfl)⟩,hat 0 h⟩
   |succ k ih=>
    intro h
    by_cases he:l.toArray[k+1]! =l.toArray[k]!
    ·rw[hat _ h,hat k (by omega)]at he
     rw[he];exact ih (by omega)
    ·exact List.mem_map.2 ⟨k+1,List.mem_filter.2 ⟨List.mem_range.2 h,(hk (k+1)).2 (.inr he)⟩,hat _ h⟩
  exact key k hk1
structure Lvl (H:Nat) (S:List Nat) (k:Nat) (lv:List Int):Prop where
 so:lv.Pairwise (· < ·)
 mem: ∀x:Int,x∈lv↔ ∃i∈S,x=((leafN H i/2^k:Nat):Int)
theorem shr1_nat (n:Nat):shr1 (n:Int)=((n/2:Nat):Int):=by
 unfold shr1
 have e:(2:Int)^min (Int.toNat 1) IntKind.u64.bits=2:=by decide
 rw[e,Int.fdiv_eq_ediv_of_nonneg _ (by omega)];omega
theorem Lvl.up {H:Nat} {S:List Nat} {k:Nat} {lv:List Int} (h:Lvl H S k lv):Lvl H S (k+1) (upL lv):=by
 have hle:(lv.map shr1).Pairwise (· ≤ ·):=by
  rw[List.pairwise_map]
  refine List.Pairwise.imp_of_mem (R:=fun a b=>a<b) (fun {a b} ha hb hab=> ?_) h.so
  obtain⟨i,_,rfl⟩:=(h.mem a).1 ha
  obtain⟨j,_,rfl⟩:=(h.mem b).1 hb
  rw[shr1_nat,shr1_nat]
  have:=Nat.div_le_div_right (c:=2) (show leafN H i/2^k≤leafN H j/2^k by omega)
  omega
 obtain⟨c1,c2⟩:=compact_spec hle
 refine⟨c1,fun x=>(c2 x).trans ?_⟩
 rw[List.mem_map]
 constructor
 ·rintro⟨y,hy,rfl⟩
  obtain⟨i,hi,rfl⟩:=(h.mem y).1 hy
  exact⟨i,hi,by rw[shr1_nat,Nat.div_div_eq_div_mul,←Nat.pow_succ]⟩
 ·rintro⟨i,hi,rfl⟩
  exact⟨_,(h.mem _).2 ⟨i,hi,rfl⟩,by rw[shr1_nat,Nat.div_div_eq_div_mul,←Nat.pow_succ]⟩
theorem lt_of_log {a b:Nat} (hb:b≠0) (h:a.log2<b.log2):a<b:=by
 have h1:=lt_log2 (n:=a)
 have h2:=log2_le hb
 have:=Nat.pow_le_pow_right (n:=2) (by decide) (show a.log2+1≤b.log2 by omega)
 omega
theorem treeG_spec {H:Nat} {S:List Nat} (hS: ∀i∈S,i<2^H): ∀(m k:Nat) (lv out:List Int),k+m=H+1→Lvl H S k lv→out.Pairwise (· < ·)→(∀x:Int,x∈out↔ ∃i∈S,∃j,j<k∧x=((leafN H i/2^j:Nat):Int))→
 (treeG m lv out).Pairwise (· < ·)∧ ∀x:Int,x∈treeG m lv out↔ ∃i∈S,∃j,j<H+1∧x=((leafN H i/2^j:Nat):Int):=by
 intro m
 induction m with
 |zero=>
  intro k lv out hk hl ho hm
  obtain rfl:k=H+1:=by omega
  exact⟨ho,hm⟩
 |succ m ih=>
  intro k lv out hk hl ho hm
  refine ih (k+1) (upL lv) (lv++out) (by omega) hl.up ?_ fun x=> ?_
  ·refine List.pairwise_append.2 ⟨hl.so,ho,fun x hx y hy=> ?_⟩
   obtain⟨i,hi,rfl⟩:=(hl.mem x).1 hx
   obtain⟨i',hi',j,hj,rfl⟩:=(hm y).1 hy
   have a:=leafN_log2 (hS i hi)
   have b:=leafN_log2 (hS i' hi')
   have:=lt_of_log (a:=leafN H i/2^k) (b:=leafN H i'/2^j) (div_pos leafN_ne (by omega)) (by rw[log2_div leafN_ne (by omega),log2_div leafN_ne (by omega)];omega)
   omega
  ·rw[List.mem_append,hl.mem,hm]
   constructor
   ·rintro(⟨i,hi,rfl⟩|⟨i,hi,j,hj,rfl⟩)
    ·exact⟨i,hi,k,by omega,rfl⟩
    ·exact⟨i,hi,j,by omega,rfl⟩
   ·rintro⟨i,hi,j,hj,rfl⟩
    rcases Nat.lt_or_ge j k with h|h
    ·exact .inr ⟨i,hi,j,h,rfl⟩
    ·obtain rfl:j=k:=by omega
     exact .inl ⟨i,hi,rfl⟩
structure SetN (a:Int) (l:List Int) (H:Nat) (S:List Nat):Prop where
 ha:a=(H:Int)
 h1:1≤H
 h2:H≤32
 map:l=S.map fun i:Nat=>(i:Int)
 lt: ∀i∈S,i<2^H
 len:S.length≤1024
 so:S.Pairwise (· < ·)
theorem setN_of {a:Int} {l:List Int} (h:lokB a l=true) (hu: ∀x∈l,IntKind.u64.has x):SetN a l a.toNat (l.map Int.toNat):=by
 obtain⟨h1,h2,_⟩:=lok_len h
 have h3:=highB_iff.1 (chk_zero h2).1
 have h4:=lok_sorted h
 refine⟨by omega,by omega,by omega, ?_,fun i hi=> ?_,by rw[List.length_map];exact h1, ?_⟩
 ·rw[List.map_map]
  conv=>lhs;rw[←List.map_id l]
  refine List.map_congr_left fun x hx=> ?_
  have:0≤x:=(hu x hx).1
  show x=((x.toNat:Nat):Int)
  omega
 ·obtain⟨x,hx,rfl⟩:=List.mem_map.1 hi
  obtain⟨c0,c1,_⟩:=hasU (hu x hx)
  have:=lok_leaf h x hx
  rw[leaf_err c0 c1]at this
  exact(leafOk_iff.1 this).2.2
 ·rw[List.pairwise_map]
  refine List.Pairwise.imp_of_mem (R:=fun a b=>a<b) (fun {x y} hx hy hxy=> ?_) h4
  have a1:0≤x:=(hu x hx).1
  have a2:0≤y:=(hu y hy).1
  omega
theorem SetN.leaf {a:Int} {l:List Int} {H:Nat} {S:List Nat} (s:SetN a l H S) {i:Nat} (hi:i<2^H):leafI a (i:Int)=(((leafN H i:Nat):Int),0):=by
 have hp:=pow32 s.h2
 rw[leaf_nat (by omega) (by omega),s.ha]
 unfold leafV
 rw[Int.toNat_natCast,Int.toNat_natCast,decide_eq_true s.h1,decide_eq_true s.h2,decide_eq_true hi];rfl
theorem SetN.level {a:Int} {l:List Int} {H:Nat} {S:List Nat} (s:SetN a l H S):Lvl H S 0 (l.map fun x=>(leafI a x).1):=by
 have e:(l.map fun x=>(leafI a x).1)=S.map fun i=>((leafN H i:Nat):Int):=by
  rw[s.map,List.map_map]
  exact List.map_congr_left fun i hi=>congrArg Prod.fst (s.leaf (s.lt i hi))
 rw[e]
 refine⟨?_,fun x=> ?_⟩
 ·rw[List.pairwise_map]
  exact s.so.imp fun {i j} h=>by unfold leafN;omega
 ·rw[List.mem_map]
  constructor
  ·rintro⟨i,hi,rfl⟩;exact⟨i,hi,by rw[Nat.pow_zero,Nat.div_one]⟩
  ·rintro⟨i,hi,rfl⟩;exact⟨i,hi,by rw[Nat.pow_zero,Nat.div_one]⟩
theorem SetN.tree {a:Int} {l:List Int} {H:Nat} {S:List Nat} (s:SetN a l H S):(treeL a l).Pairwise (· < ·)∧ ∃t:List Nat,treeL a l=t.map (fun n:Nat=>(n:Int))∧TreeN H S t:=by
 obtain⟨h1,h2⟩:=treeG_spec s.lt (H+1) 0 (l.map fun x=>(leafI a x).1) [] (by omega) s.level .nil fun x=>by
  constructor
  ·intro h;cases h
  ·rintro⟨i,_,j,hj,_⟩;omega
 have ea:(a+1).toNat=H+1:=by have:=s.ha;omega
 have e:treeL a l=treeG (H+1) (l.map fun x=>(leafI a x).1) []:=by unfold treeL;rw[ea]
 rw[e]
 refine⟨h1,(treeG (H+1) (l.map fun x=>(leafI a x).1) []).map Int.toNat, ?_, ?_,fun x=> ?_⟩
 ·rw[List.map_map]
  have hmem:=h2
  generalize treeG (H+1) (l.map fun x=>(leafI a x).1) []=t at*
  conv=>lhs;rw[←List.map_id t]
  refine List.map_congr_left fun x hx=> ?_
  obtain⟨i,_,j,_,rfl⟩:=(hmem x).1 hx
  rfl
 ·have hp: ∀x∈treeG (H+1) (l.map fun x=>(leafI a x).1) [],0≤x:=fun x hx=>by
   obtain⟨i,_,j,_,rfl⟩:=(h2 x).1 hx
   exact Int.natCast_nonneg _
  generalize treeG (H+1) (l.map fun x=>(leafI a x).1) []=t at*
  unfold List.Nodup
  rw[List.pairwise_map]
  refine List.Pairwise.imp_of_mem (R:=fun a b=>a<b) (fun {x y} hx hy hxy=> ?_) h1
  have:=hp x hx
  have:=hp y hy
  omega
 ·constructor
  ·intro h
   obtain⟨y,hy,rfl⟩:=List.mem_map.1 h
   obtain⟨i,hi,j,hj,rfl⟩:=(h2 y).1 hy
   have hl:=leafN_log2 (s.lt i hi)
   refine⟨i,hi, ?_⟩
   rw[Int.toNat_natCast]
   refine abv_iff.2 ⟨by rw[log2_div leafN_ne (by omega)];omega, ?_⟩
   rw[log2_div leafN_ne (by omega),hl,show H-(H-j)=j by omega]
  ·rintro⟨i,hi,hb⟩
   have hl:=leafN_log2 (s.lt i hi)
   obtain⟨p1,p2⟩:=abv_iff.1 hb
   refine List.mem_map.2 ⟨(x:Int),(h2 x).2 ⟨i,hi,(leafN H i).log2-x.log2,by omega,by rw[p2]⟩,Int.toNat_natCast x⟩
theorem odd0:oddB 0=false:=by decide
theorem odd1:oddB 1=false:=by decide
theorem or_one (n:Nat):2*n|||1=2*n+1:=by
 have:=Nat.two_pow_add_eq_or_of_lt (i:=1) (b:=1) (by decide) n
 rw[Nat.pow_one]at this
 exact this.symm
theorem child_nat {a:Int} {H n:Nat} (ha:a=(H:Int)) (hn:okN H n=true) {sd:Nat} (hs:sd≤1):
 childI a (n:Int) (sd:Int)=if n.log2=H then(0,4)else(((2*n+sd:Nat):Int),0):=by
 obtain⟨h1,h2,h3,h4⟩:=okN_iff.1 hn
 have hp:=pow32 h2
 have hp1:2^(H+1)=2*2^H:=by rw[Nat.pow_succ];omega
 have hc:(chkI a (n:Int) != 0)=false:=by rw[chk_ne (by omega),ha,Int.toNat_natCast,Int.toNat_natCast,hn];rfl
 have ho:oddB (sd:Int)=false:=by
  rcases Nat.eq_zero_or_pos sd with rfl|h
  ·exact odd0
  ·obtain rfl:sd=1:=by omega
   exact odd1
 unfold childI
 rw[hc,ho,dep_nat (by omega),Int.toNat_natCast,ha]
 simp only[cond_false]
 by_cases h:n.log2=H
 ·rw[if_pos h,h,show((H:Int)==(H:Int))=true from beq_self_eq_true _];rfl
 ·rw[if_neg h,show((n.log2:Int)==(H:Int))=false by simp;omega]
  have e1:shlI (n:Int) 1=((n*2^1:Nat):Int):=shl_nat (k:=1) (by omega) (by omega)
  rw[e1,wrapU (by omega) (by omega),or_nat (by omega) (by omega)]
  rcases Nat.eq_zero_or_pos sd with rfl|h9
  ·simp only[cond_false,Nat.or_zero]
   congr 2;omega
  ·obtain rfl:sd=1:=by omega
   have:n*2^1=2*n:=by omega
   rw[this,or_one];rfl
theorem okN_kid {H n sd:Nat} (hn:okN H n=true) (h:n.log2<H) (hs:sd≤1):okN H (2*n+sd)=true:=by
 obtain⟨h1,h2,h3,h4⟩:=okN_iff.1 hn
 obtain⟨l1,l2⟩:=log2_two (d:=n) (by omega)
 have:(2*n+sd).log2=n.log2+1:=by
  rcases Nat.eq_zero_or_pos sd with rfl|h9
  ·exact l1
  ·obtain rfl:sd=1:=by omega
   exact l2
 exact okN_iff.2 ⟨h1,h2,by omega,(okN_log (by omega)).2 (by omega)⟩
theorem kids_nat {a:Int} {H:Nat} {t:List Nat} (ha:a=(H:Int)) (ht:(t.map fun n:Nat=>(n:Int)).Pairwise (· < ·)) {x:Nat} (hx:okN H x=true):
 kidsL a (t.map fun n:Nat=>(n:Int)) (x:Int)=(kidsN H t x).map fun n:Nat=>(n:Int):=by
 have hf: ∀c:Nat,foundBu (t.map fun n:Nat=>(n:Int)) (c:Int)=t.contains c:=fun c=>by
  apply Bool.eq_iff_iff.2
  rw[found_iffu ht,List.contains_iff_mem,List.mem_map]
  constructor
  ·rintro⟨y,hy,e⟩
   obtain rfl:y=c:=by omega
   exact hy
  ·intro h;exact⟨c,h,rfl⟩
 have e0:=child_nat ha hx (sd:=0) (by omega)
 have e1:=child_nat ha hx (sd:=1) (by omega)
 have e0:childI a (x:Int) 0=_:=e0
 have e1:childI a (x:Int) 1=_:=e1
 unfold kidsL kidsN
 rw[e0,e1]
 by_cases h:x.log2=H
 ·rw[if_pos h,if_pos h,if_neg (show ¬x.log2<H by omega)];rfl
 ·have hlt:x.log2<H:=by
   have:=(okN_log (h:=H) (n:=x) (okN_ne hx)).1 (okN_iff.1 hx).2.2.2
   omega
  rw[if_neg h,if_neg h,if_pos hlt]
  simp only[bne_self_eq_false,cond_false,Nat.add_zero]
  unfold add1
  rw[hf,hf]
  simp only[List.filter_cons,List.filter_nil,List.nil_append]
  cases t.contains (2*x)<;>cases t.contains (2*x+1)<;>simp
theorem hangG_flat (a:Int) (t:List Int): ∀(t2 hs:List Int),hangG a t t2 hs=hs++t2.flatMap (kidsL a t):=by
 intro t2
 induction t2 with
 |nil=>intro hs;rw[hangG,List.flatMap_nil,List.append_nil]
 |cons x r ih=>intro hs;rw[hangG,ih,List.flatMap_cons,List.append_assoc]
theorem SetN.treeOk {a:Int} {l:List Int} {H:Nat} {S:List Nat} (s:SetN a l H S) {t:List Nat} (ht:TreeN H S t) {x:Nat} (hx:x∈t):okN H x=true:=by
 obtain⟨i,hi,hb⟩:=(ht.mem x).1 hx
 obtain⟨p1,p2⟩:=abv_iff.1 hb
 have hx0:x≠0:=by
  intro e
  have:=abv_upN hb
  exact upN_ne (leafN_ne (h:=H) (i:=i)) (this.symm.trans e)
 rw[leafN_log2 (s.lt i hi)]at p1
 exact okN_iff.2 ⟨s.h1,s.h2,Nat.pos_of_ne_zero hx0,(okN_log hx0).2 p1⟩
theorem hang_law {a:Int} {l:List Int} (h:lokB a l=true) (hu: ∀x∈l,IntKind.u64.has x):(hangI a l).2=0∧ ∃g:List Nat,(hangI a l).1=g.map (fun n:Nat=>(n:Int))∧(∀n∈g,okN a.toNat n=true)∧
 ∀i,i<2^a.toNat→g.countP (fun n=>abv n (leafN a.toNat i))=if(i:Int)∈l then 0 else 1:=by
 have s:=setN_of h hu
 have hck:lchkI a l=0:=by unfold lchkI;rw[h];rfl
 have hmem: ∀i:Nat,i∈l.map Int.toNat↔(i:Int)∈l:=fun i=>by
  rw[List.mem_map]
  constructor
  ·rintro⟨x,hx,e⟩
   have:0≤x:=(hu x hx).1
   rwa [show(i:Int)=x by omega]
  ·intro h;exact⟨_,h,Int.toNat_natCast i⟩
 unfold hangI
 rw[hck]
 cases hl:l with
 |nil=>
  refine⟨rfl,[1],rfl,fun n hn=> ?_,fun i hi=> ?_⟩
  ·rw[List.mem_singleton.1 hn,okN_one,decide_eq_true s.h1,decide_eq_true s.h2];rfl
  ·rw[if_neg (by simp),List.countP_cons_of_pos (p:=fun n=>abv n (leafN a.toNat i)) (abv_one leafN_ne)];rfl
 |cons y r=>
  rw[←hl]
  have hlen:((l.length:Int)==0)=false:=by rw[hl];simp;omega
  rw[hlen]
  have hti:treeI a l=(treeL a l,0):=by unfold treeI;rw[hck];rfl
  obtain⟨t1,t,t2,t3⟩:=s.tree
  refine⟨?_,t.flatMap (kidsN a.toNat t), ?_,fun n hn=> ?_,fun i hi=> ?_⟩
  ·simp only[beq_self_eq_true,cond_true,cond_false]
   rw[hti]
  ·simp only[beq_self_eq_true,cond_true,cond_false]
   unfold hangT
   rw[hti]
   simp only[bne_self_eq_false,cond_false]
   rw[hangG_flat,List.nil_append,t2,List.map_flatMap,List.flatMap_map]
   rw[t2]at t1
   have: ∀(r:List Nat),(∀x∈r,x∈t)→r.flatMap (fun x:Nat=>kidsL a (t.map fun n:Nat=>(n:Int)) (x:Int))=r.flatMap fun x=>(kidsN a.toNat t x).map fun n:Nat=>(n:Int):=by
    intro r
    induction r with
    |nil=>intro _;rfl
    |cons x r ih=>intro hr;rw[List.flatMap_cons,List.flatMap_cons,ih fun z hz=>hr z (by simp [hz]),kids_nat s.ha t1 (s.treeOk t3 (hr x (by simp)))]
   exact this t fun _ h=>h
  ·obtain⟨x,hx,hn⟩:=List.mem_flatMap.1 hn
   have hox:=s.treeOk t3 hx
   unfold kidsN at hn
   by_cases h9:x.log2<a.toNat
   ·rw[if_pos h9]at hn
    have hn:=(List.mem_filter.1 hn).1
    rcases List.mem_cons.1 hn with rfl|hn
    ·exact okN_kid (sd:=0) hox h9 (by omega)
    ·rw[List.mem_singleton.1 hn];exact okN_kid (sd:=1) hox h9 (by omega)
   ·rw[if_neg h9]at hn;cases hn
  ·rw[hang_cnt s.lt (by rw[hl];simp) t3 hi]
   by_cases hin:i∈l.map Int.toNat
   ·rw[if_pos hin,if_pos ((hmem i).1 hin)]
   ·rw[if_neg hin,if_neg fun h=>hin ((hmem i).2 h)]
theorem lenI_bits (n:Nat):lenI (n:Int)=(bitsN n:Int):=by
 unfold bitsN
 by_cases h:n=0
 ·rw[if_pos h,h];rfl
 ·rw[if_neg h,lenI_nat h];omega
theorem xorI_natC {a b:Nat} (ha:a<2^64) (hb:b<2^64):xorI a b=((a^^^b:Nat):Int):=by
 unfold xorI
 have e1:(BitVec.ofInt 64 (a:Int)).toNat=a:=by rw[BitVec.toNat_ofInt];omega
 have e2:(BitVec.ofInt 64 (b:Int)).toNat=b:=by rw[BitVec.toNat_ofInt];omega
 rw[BitVec.toNat_xor,e1,e2,wrapU]
 ·omega
 ·have:=Nat.xor_lt_two_pow ha hb;omega
theorem leafN_ok {H i:Nat} (h1:1≤H) (h2:H≤32) (hi:i<2^H):okN H (leafN H i)=true:=
 okN_iff.2 ⟨h1,h2,Nat.pos_of_ne_zero leafN_ne,(okN_log leafN_ne).2 (by rw[leafN_log2 hi];exact Nat.le_refl _)⟩
theorem meet_leaf {a:Int} {H x y:Nat} (ha:a=(H:Int)) (h1:1≤H) (h2:H≤32) (hx:x<2^H) (hy:y<2^H) (hxy:x≤y):
 meetI a ((leafN H x:Nat):Int) ((leafN H y:Nat):Int)=(((leafN H x/2^bitsN (leafN H x^^^leafN H y):Nat):Int),0):=by
 have hp:=pow32 h2
 have lx:=leafN_log2 hx
 have ly:=leafN_log2 hy
 have bx:leafN H x<2^64:=by unfold leafN;omega
 have by':leafN H y<2^64:=by unfold leafN;omega
 have hc: ∀ {z:Nat},z<2^H→(chkI a ((leafN H z:Nat):Int) != 0)=false:=fun {z} hz=>by
  rw[chk_ne (by omega),ha,Int.toNat_natCast,Int.toNat_natCast,leafN_ok h1 h2 hz];rfl
 have hd: ∀ {z:Nat},z<2^H→depI ((leafN H z:Nat):Int)=(H:Int):=fun {z} hz=>by
  have:leafN H z≠0:=leafN_ne
  rw[dep_nat (by omega),Int.toNat_natCast,leafN_log2 hz]
 have m1:minI (H:Int) (H:Int)=(H:Int):=by unfold minI;split<;>rfl
 have s0: ∀ {z:Nat},shrI (z:Int) 0=(z:Int):=fun {z}=>by rw[shr_nat (by omega) (by omega)];show((z/2^0:Nat):Int)=_;rw[Nat.pow_zero,Nat.div_one]
 have hb:=(meet_ok (A:=leafN H x) (B:=leafN H y) leafN_ne (by omega) (by unfold leafN;omega)).1
 unfold meetI bothI both
 rw[hc hx,hc hy,hd hx,hd hy,m1]
 simp only[cond_false,Int.sub_self,s0]
 rw[xorI_natC bx by',lenI_bits,shr_nat (by omega) (by omega),Int.toNat_natCast,Int.toNat_natCast]
 rfl
theorem SetN.below {a:Int} {l:List Int} {H:Nat} {S:List Nat} (s:SetN a l H S) {n:Nat} (hn:okN H n=true):belowL a l n=(S.filter fun i=>abv n (leafN H i)).map fun i:Nat=>(i:Int):=by
 unfold belowL
 rw[s.map,List.filter_map]
 congr 1
 refine List.filter_congr fun i hi=> ?_
 have:=(within_nat (h:=a) (n:=(n:Int)) (i:=(i:Int)) (by omega) (by omega) (by rw[s.ha,Int.toNat_natCast,Int.toNat_natCast];exact hn) (by rw[s.ha,Int.toNat_natCast,Int.toNat_natCast];exact s.lt i hi)).2
 rw[s.ha,Int.toNat_natCast,Int.toNat_natCast,Int.toNat_natCast]at this
 rw[←s.ha]at this
 exact this
theorem down_law {a:Int} {l:List Int} {H:Nat} {S:List Nat} (s:SetN a l H S) (h:lokB a l=true) {n:Nat} (hn:okN H n=true) (hne: ∃i∈S,abv n (leafN H i)=true):
 ∃d:Nat,downI a l (n:Int)=((d:Int),0)∧DownN H S n d∧(d.log2<H→(∃x∈S,abv (2*d) (leafN H x)=true)∧ ∃x∈S,abv (2*d+1) (leafN H x)=true):=by
 have hb:belowB a l (n:Int)=false:=by
  have h1:(leavesI a (n:Int)).2=0:=by
   obtain⟨i,hi,_⟩:=hne
   exact(within_nat (i:=(i:Int)) (by omega) (by omega) (by rw[s.ha,Int.toNat_natCast,Int.toNat_natCast];exact hn) (by rw[s.ha,Int.toNat_natCast,Int.toNat_natCast];exact s.lt i hi)).1
  unfold belowB lchkI
  rw[h1,h];rfl
 have hbl:=s.below hn
 have hso:(S.filter fun i=>abv n (leafN H i)).Pairwise (· < ·):=s.so.filter _
 have hmem: ∀i,i∈(S.filter fun i=>abv n (leafN H i))↔i∈S∧abv n (leafN H i)=true:=fun i=>List.mem_filter
 generalize (S.filter fun i=>abv n (leafN H i))=B at*
 obtain⟨i,hi,hib⟩:=hne
 have hB:0<B.length:=List.length_pos_of_mem ((hmem i).2 ⟨hi,hib⟩)
 have hle: ∀p q (hp:p<B.length) (hq:q<B.length),p≤q→B[p]≤B[q]:=fun p q hp hq hpq=>by
  rcases Nat.lt_or_ge p q with h9|h9
  ·exact Nat.le_of_lt (List.pairwise_iff_getElem.1 hso p q hp hq h9)
  ·obtain rfl:p=q:=by omega
   exact Nat.le_refl _
 have hin: ∀p (hp:p<B.length),B[p]∈S∧abv n (leafN H B[p])=true:=fun p hp=>(hmem _).1 (List.getElem_mem hp)
 have e0:bsAu (B.map fun i:Nat=>(i:Int)) 0=((B[0]:Nat):Int):=by
  unfold bsAu
  rw[List.getD_eq_getElem?_getD,List.getElem?_map,show(0:Int).toNat=0 from rfl,List.getElem?_eq_getElem hB];rfl
 have hlen1024:B.length≤1024:=by
  have h1:=below_len (a:=a) (l:=l) (n:=(n:Int))
  unfold belowR at h1
  rw[hb]at h1
  simp only[cond_false]at h1
  rw[hbl,List.length_map]at h1
  exact h1
 have e1:endI (B.map fun i:Nat=>(i:Int))=((B[B.length-1]:Nat):Int):=by
  unfold endI
  rw[List.length_map,wrap64 (n:=(B.length:Int)-1) (by omega) (by omega)]
  unfold bsAu
  rw[List.getD_eq_getElem?_getD,List.getElem?_map,show((B.length:Int)-1).toNat=B.length-1 by omega,List.getElem?_eq_getElem (show B.length-1<B.length by omega)];rfl
 obtain⟨x1,x2⟩:=hin 0 hB
 obtain⟨y1,y2⟩:=hin (B.length-1) (by omega)
 have hxy:=hle 0 (B.length-1) hB (by omega) (by omega)
 have lx:=leafN_log2 (s.lt _ x1)
 have ly:=leafN_log2 (s.lt _ y1)
 obtain⟨m1,m2⟩:=meet_ok (A:=leafN H B[0]) (B:=leafN H B[B.length-1]) leafN_ne (ly.trans lx.symm) (by unfold leafN;omega)
 refine⟨leafN H B[0]/2^bitsN (leafN H B[0]^^^leafN H B[B.length-1]), ?_, ?_,fun hlt=> ?_⟩
 ·unfold downI belowR
  rw[hb]
  simp only[cond_false,bne_self_eq_false]
  rw[hbl,e0,e1,s.leaf (s.lt _ x1),s.leaf (s.lt _ y1),List.length_map,show((B.length:Int)==0)=false by rw[beq_eq_false_iff_ne];omega]
  simp only[cond_false,bne_self_eq_false]
  exact meet_leaf s.ha s.h1 s.h2 (s.lt _ x1) (s.lt _ y1) hxy
 ·have hml:(leafN H B[0]/2^bitsN (leafN H B[0]^^^leafN H B[B.length-1])).log2≤H:=by rw[log2_div leafN_ne m1,lx];omega
  refine⟨hn,okN_iff.2 ⟨s.h1,s.h2,Nat.pos_of_ne_zero m2.ne,(okN_log m2.ne).2 hml⟩,m2.top n x2 y2,⟨B[0],x1,m2.ab _ rfl (Nat.le_refl _) (by unfold leafN;omega)⟩,fun x hx hxb=> ?_⟩
  obtain⟨p,hp,rfl⟩:=List.getElem_of_mem ((hmem x).2 ⟨hx,hxb⟩)
  have a1:=hle 0 p hB hp (by omega)
  have a2:=hle p (B.length-1) hp (by omega) (by omega)
  exact m2.ab _ (by rw[leafN_log2 (s.lt _ hx),lx]) (by unfold leafN;omega) (by unfold leafN;omega)
 ·obtain⟨f1,f2⟩:=m2.fork (by rw[lx];exact hlt)
  exact⟨⟨B[0],x1,f1⟩,⟨B[B.length-1],y1,f2⟩⟩
def splitI (h:Int) (s:Subset.D):List Subset.D×Int:=bif (useI h s).2 != 0 then([],(useI h s).2)else bif (bif (useI h s).1 then true else s.2==0)then([s],0)else
 ([(s.1,(upI h s.2 (nxI (depthI h s.1).1 (stepI h).1 h)).1),((upI h s.2 (nxI (depthI h s.1).1 (stepI h).1 h)).1,s.2)],(upI h s.2 (nxI (depthI h s.1).1 (stepI h).1 h)).2)
theorem nx_nat {i st H:Nat} (hst:1≤st) (hst6:st≤6) (hi:i≤64):nxI (i:Int) (st:Int) (H:Int)=((min ((i/st+1)*st) H:Nat):Int):=by
 unfold nxI
 have e0:(i:Int).tdiv (st:Int)=((i/st:Nat):Int):=rfl
 have hb:i/st≤i:=Nat.div_le_self _ _
 have hb0:(0:Int)≤((i/st:Nat):Int):=Int.natCast_nonneg _
 have hb1:((i/st:Nat):Int)≤64:=Int.ofNat_le.2 (Nat.le_trans hb hi)
 have hm:(i/st+1)*st≤65*6:=Nat.mul_le_mul (by omega) hst6
 rw[e0,wrap64 (n:=((i/st:Nat):Int)) (by omega) (by omega),wrap64 (n:=((i/st:Nat):Int)+1) (by omega) (by omega),show((i/st:Nat):Int)+1=((i/st+1:Nat):Int) by omega,←Int.natCast_mul,wrap64 (n:=(((i/st+1)*st:Nat):Int)) (by omega) (by omega)]
 unfold minI
 split<;>omega
theorem sp_nat {i st H:Nat}:spB (i:Int) (st:Int) (H:Int)=(i%st==0||i==H):=by
 unfold spB
 rw[show(i:Int).tmod (st:Int)=((i%st:Nat):Int)from rfl]
 rw[show(((i%st:Nat):Int)==0)=(i%st==0) by apply Bool.eq_iff_iff.2;simp only[beq_iff_eq];exact⟨fun h=>Int.ofNat.inj h,fun h=>by rw[h];rfl⟩,show((i:Int)==(H:Int))=(i==H) by apply Bool.eq_iff_iff.2;simp only[beq_iff_eq];omega]
 cases i%st==0<;>rfl
theorem use_nat {a:Int} {H I J:Nat} (ha:a=(H:Int)) (hs:okS H I J=true) (hJ:J≠0): ∃st:Nat,1≤st∧st≤6∧(stepI a).1=(st:Int)∧(depthI a (I:Int)).1=(I.log2:Int)∧subE a ((I:Int),(J:Int))=0∧
 useI a ((I:Int),(J:Int))=((I.log2%st==0||I.log2==H)||decide (J.log2≤min ((I.log2/st+1)*st) H),0):=by
 obtain⟨k1,k2⟩:=okS_iff.1 hs
 obtain⟨j1,j2,j3⟩:=k2.resolve_left hJ
 obtain⟨h1,h2,h3,h4⟩:=okN_iff.1 k1
 obtain⟨_,_,g3,g4⟩:=okN_iff.1 j1
 have hp:=pow32 h2
 have hp1:2^(H+1)=2*2^H:=by rw[Nat.pow_succ];omega
 have hIl:=(okN_log (h:=H) (n:=I) (by omega)).1 h4
 have u: ∀ {n:Nat},n<2^64→IntKind.u64.has (n:Int):=fun {n} hn=>⟨by show(0:Int)≤n;omega,by show(n:Int)≤18446744073709551615;omega⟩
 have hsub:subE a ((I:Int),(J:Int))=0:=by
  rw[subE_nat (u (by omega)) (u (by omega)),ha]
  simp only[Int.toNat_natCast]
  rw[hs];rfl
 have hdep: ∀ {n:Nat},okN H n=true→depthI a (n:Int)=((n.log2:Int),0):=fun {n} hn=>by
  have:=okN_ne hn
  unfold depthI
  rw[show(chkI a (n:Int) != 0)=false by rw[chk_ne (by omega),ha,Int.toNat_natCast,Int.toNat_natCast,hn];rfl,dep_nat (by omega),Int.toNat_natCast];rfl
 have hst:stepI a=(stepN a,0):=by
  unfold stepI
  rw[show(chkI a 1 != 0)=false by
   rw[chk_ne (by decide),ha,Int.toNat_natCast,show(1:Int).toNat=1 from rfl,okN_one,decide_eq_true h1,decide_eq_true h2];rfl];rfl
 obtain⟨q1,q2⟩:=stepN_pos a
 obtain⟨st,hst'⟩: ∃st:Nat,stepN a=(st:Int):=⟨(stepN a).toNat,by omega⟩
 refine⟨st,by omega,by omega,by rw[hst];exact hst',by rw[hdep k1],hsub, ?_⟩
 unfold useI useB depJ depE depB
 rw[hsub,hst,hdep k1,hdep j1,hst']
 have hJ':((J:Int) != 0)=true:=by simp;omega
 simp only[bne_self_eq_false,cond_false,beq_self_eq_true,cond_true,hJ']
 rw[show((J:Int)==0)=false by simp;omega]
 simp only[cond_false,cond_true,beq_self_eq_true]
 rw[ha,sp_nat,nx_nat (by omega) (by omega) (by omega)]
 have e:decide ((J.log2:Int)≤((min ((I.log2/st+1)*st) H:Nat):Int))=decide (J.log2≤min ((I.log2/st+1)*st) H):=by
  apply Bool.eq_iff_iff.2;simp only[decide_eq_true_eq];omega
 rw[e]
 cases (I.log2%st==0||I.log2==H)<;>rfl
theorem split_law {a:Int} {H I J:Nat} (ha:a=(H:Int)) (hs:okS H I J=true) (hJ:J≠0): ∃c:List (Nat×Nat),splitI a ((I:Int),(J:Int))=(c.map (fun s=>((s.1:Int),(s.2:Int))),0)∧c.length≤2∧
 (∀s∈c,okS H s.1 s.2=true∧s.2≠0∧useI a ((s.1:Int),(s.2:Int))=(true,0))∧ ∀i,cntN H c i=(hasN H I J i).toNat:=by
 obtain⟨st,s1,s2,e1,e2,e3,e4⟩:=use_nat ha hs hJ
 obtain⟨k1,k2⟩:=okS_iff.1 hs
 obtain⟨j1,j2,j3⟩:=k2.resolve_left hJ
 obtain⟨h1,h2,h3,h4⟩:=okN_iff.1 k1
 obtain⟨_,_,g3,g4⟩:=okN_iff.1 j1
 have hIl:=(okN_log (h:=H) (n:=I) (by omega)).1 h4
 have hJl:=(okN_log (h:=H) (n:=J) (by omega)).1 g4
 have hp:=pow32 h2
 have hp1:2^(H+1)=2*2^H:=by rw[Nat.pow_succ];omega
 cases hu:((I.log2%st==0||I.log2==H)||decide (J.log2≤min ((I.log2/st+1)*st) H))with
 |true=>
  rw[hu]at e4
  refine⟨[(I,J)], ?_,by simp,fun s hs'=> ?_,fun i=> ?_⟩
  ·unfold splitI;rw[e4];rfl
  ·rw[List.mem_singleton.1 hs'];exact⟨hs,hJ,e4⟩
  ·unfold cntN
   rw[List.countP_cons,List.countP_nil]
   cases hasN H I J i<;>rfl
 |false=>
  rw[hu]at e4
  rw[Bool.or_eq_false_iff,Bool.or_eq_false_iff]at hu
  obtain⟨⟨u1,u2⟩,u3⟩:=hu
  have u1:I.log2%st≠0:=by simpa using u1
  have u2:I.log2≠H:=by simpa using u2
  have u3:=of_decide_eq_false u3
  have hgt:I.log2<(I.log2/st+1)*st:=by
   rw[Nat.add_mul,Nat.one_mul]
   have h8:=Nat.div_add_mod I.log2 st
   have h9:=Nat.mod_lt I.log2 (show 0<st by omega)
   rw[Nat.mul_comm]at h8
   omega
  have hnx:nxI (depthI a (I:Int)).1 (stepI a).1 a=((min ((I.log2/st+1)*st) H:Nat):Int):=by rw[e2,e1,ha];exact nx_nat s1 s2 (by omega)
  have hsp:min ((I.log2/st+1)*st) H%st=0∨min ((I.log2/st+1)*st) H=H:=by
   rcases Nat.le_total ((I.log2/st+1)*st) H with h|h
   ·left;rw[Nat.min_eq_left h,Nat.mul_mod_left]
   ·right;exact Nat.min_eq_right h
  have hlt:I.log2<min ((I.log2/st+1)*st) H:=by omega
  have hmx:min ((I.log2/st+1)*st) H≤H:=Nat.min_le_right _ _
  generalize hN:min ((I.log2/st+1)*st) H=N at*
  have hJ0:J≠0:=hJ
  have hkl:(upN J N).log2=N:=upN_log hJ0 (by omega)
  have hk0:upN J N≠0:=upN_ne hJ0
  have hkJ:abv (upN J N) J=true:=upN_abv hJ0 (by omega)
  have hIk:abv I (upN J N)=true:=abv_comp hJ0 j2 hkJ (by omega)
  have hkN:okN H (upN J N)=true:=okN_iff.2 ⟨h1,h2,Nat.pos_of_ne_zero hk0,(okN_log hk0).2 (by omega)⟩
  have hup:upI a (J:Int) (N:Int)=(((upN J N:Nat):Int),0):=by
   unfold upI outUp
   rw[show(chkI a (J:Int) != 0)=false by rw[chk_ne (by omega),ha,Int.toNat_natCast,Int.toNat_natCast,j1];rfl,dep_nat (by omega),Int.toNat_natCast,decide_eq_false (show ¬(N:Int)<0 by omega),decide_eq_false (show ¬(N:Int)>(J.log2:Int) by omega)]
   simp only[cond_false]
   rw[show(J.log2:Int)-(N:Int)=((J.log2-N:Nat):Int) by omega,shr_nat (by omega) (by omega),Int.toNat_natCast,Int.toNat_natCast];rfl
  have o1:okS H I (upN J N)=true:=okS_iff.2 ⟨k1,.inr ⟨hkN,hIk,fun e=>by have:=congrArg Nat.log2 e;omega⟩⟩
  have o2:okS H (upN J N) J=true:=okS_iff.2 ⟨hkN,.inr ⟨j1,hkJ,fun e=>by have:=congrArg Nat.log2 e;omega⟩⟩
  refine⟨[(I,upN J N),(upN J N,J)], ?_,by simp,fun s hs'=> ?_,fun i=> ?_⟩
  ·unfold splitI
   rw[e4]
   simp only[bne_self_eq_false,cond_false]
   rw[hnx,hup,show((J:Int)==0)=false by simp;omega]
   rfl
  ·rcases List.mem_cons.1 hs' with rfl|hs'
   ·refine⟨o1,hk0, ?_⟩
    obtain⟨st',t1,t2,f1,f2,f3,f4⟩:=use_nat ha o1 hk0
    obtain rfl:st'=st:=by rw[e1]at f1;omega
    rw[f4,hkl,hN,decide_eq_true (Nat.le_refl N),Bool.or_true]
   ·rw[List.mem_singleton.1 hs']
    refine⟨o2,hJ, ?_⟩
    obtain⟨st',t1,t2,f1,f2,f3,f4⟩:=use_nat ha o2 hJ
    obtain rfl:st'=st:=by rw[e1]at f1;omega
    rw[f4,hkl]
    rcases hsp with h|h
    ·rw[h];rfl
    ·rw[show(N==H)=true by simpa using h,Bool.or_true,Bool.true_or]
  ·unfold cntN
   rw[has_split hk0 hJ hIk hkJ,List.countP_cons,List.countP_cons,List.countP_nil]
   cases hasN H I (upN J N) i<;>cases hasN H (upN J N) J i<;>rfl
theorem r389 (n:Int):run (orc []) noL [] F389 [.one (.int .u64 n)] []=some (.agg [.int .u64 n,.int .u64 0]):=by kernel_rfl
def s389:Sp:= .fn [.v U] fun n=>(true,.agg [.int .u64 n,.int .u64 0])
theorem g389:GoodS Tryz.prog N389 s389:=by
 refine good (.nil _) H389 rfl (by kernel_rfl) noL [] (noLoops (by kernel_rfl)) [.v U] (by decide) [] _ fun x r hw e=> ?_
 cases e
 exact r389 x
def Γ388:Orc:=orc [(N389,s389)]
abbrev live388:List (Nat×Dir):=[(1,.keep),(5,.arr Subset),(11,.keep),(12,.keep),(13,.keep)]
def vs388 (f:FuncId) (o:List Subset.D) (l:List Int) (n i:Int):List AV:=[.one (.fn f []),.arr true Subset o,.one (.sl false U none l),.one (.int .i64 n),.one (.int .i64 i)]
noncomputable abbrev lo388 (Λ:Lam AV) (K:AE→List AV→Option AV) (fuel:Nat) (vs:List AV):Option AV:=loopN (aexec tb Γ388 Λ ⟨26,0,[(0,live388)]⟩ (loop1 F388).2 0) 26 0 live388 K fuel vs
theorem step388 (o:List Subset.D) (l:List Int) (n i:Int) (Λ:Lam AV) (K:AE→List AV→Option AV) (fuel:Nat):lo388 Λ K (fuel+1) (vs388 N389 o l n i)=
 bif decide (i<n)then bif inB i l.length then bif inB i o.length then lo388 Λ K fuel (vs388 N389 (o.set i.toNat (bsAu l i,0)) l n (IntKind.i64.wrap (i+1)))else none else none else K (.exit 0) (vs388 N389 o l n i):=by kernel_rfl
def wholeS (l:List Int):List Subset.D:=l.map fun x=>(x,0)
def Λ388:Lam AV:=fun _ vs K=>
 match vs with
 |[.one (.fn f []),.arr true (.pair (.int .u64) (.int .u64)) o,.one (.sl false (.int .u64) none l),.one (.int .i64 n),.one (.int .i64 0)]=>
  bif Nat.beq f N389&&(decide (n=l.length)&&(decide (o.length=l.length)&&decide (l.length≤1000000)))then K (.exit 0) (vs388 N389 (wholeS l) l n n)else none
 |_=>none
theorem fillLoop {ρ:Type} {l:List Int} {F:Nat→List Subset.D→Int→Option ρ} {K:List Subset.D→Int→Option ρ} {out:ρ} (hmax:l.length≤1000000)
 (step: ∀fuel o i,F (fuel+1) o i=bif decide (i<(l.length:Int))then bif inB i l.length then bif inB i o.length then F fuel (o.set i.toNat (bsAu l i,0)) (IntKind.i64.wrap (i+1))else none else none else K o i):
 ∀(m j:Nat) (o:List Subset.D),j+m=l.length→o.length=l.length→o.take j=(wholeS l).take j→K (wholeS l) l.length=some out→ ∃fuel,F fuel o (j:Int)=some out:=by
 intro m
 induction m with
 |zero=>
  intro j o hj ho ht h
  obtain rfl:j=l.length:=by omega
  have e:o=wholeS l:=by
   have hw:(wholeS l).length=l.length:=by simp [wholeS]
   rw[List.take_of_length_le (by omega),List.take_of_length_le (by omega)]at ht
   exact ht
  exact⟨1,by rw[step,nlt_dec,e];exact h⟩
 |succ m ih=>
  intro j o hj ho ht h
  have hlt:j<l.length:=by omega
  have e1:bsAu l (j:Int)=l[j]:=by unfold bsAu;simp [hlt]
  obtain⟨fuel,hf⟩:=ih (j+1) (o.set j (bsAu l j,0)) (by omega) (by rw[List.length_set];exact ho) (by
   have hjo:j<o.length:=by omega
   have hjw:j<(wholeS l).length:=by simp [wholeS];omega
   rw[List.take_succ_eq_append_getElem (by rw[List.length_set];exact hjo),List.take_succ_eq_append_getElem hjw,List.take_set_of_le (Nat.le_refl j),ht,List.getElem_set_self]
   simp [wholeS,e1]) h
  refine⟨fuel+1, ?_⟩
  rw[step,lt_dec hlt,inB_lt hlt,inB_lt (show j<o.length by omega),wrap64 (n:=(j:Int)+1) (by omega) (by omega)]
  exact hf
theorem loop388:LoopP tb Γ388 Λ388 ⟨26,0,[(0,live388)]⟩ (loop1 F388):=by
 intro vs K out h
 have hcur:(loop1 F388).1=0:=by kernel_rfl
 rw[hcur]at h⊢
 unfold Λ388 at h
 split at h
 ·rename_i f o l n
  cases hc:Nat.beq f N389&&(decide (n=l.length)&&(decide (o.length=l.length)&&decide (l.length≤1000000)))with
  |false=>rw[hc]at h;cases h
  |true=>
   rw[hc]at h
   simp only[Bool.and_eq_true,decide_eq_true_eq]at hc
   obtain⟨hf,rfl,ho,hl⟩:=hc
   obtain rfl:=Nat.eq_of_beq_eq_true hf
   exact fillLoop (l:=l) hl (F:=fun fuel o i=>lo388 Λ388 K fuel (vs388 N389 o l l.length i)) (K:=fun o i=>K (.exit 0) (vs388 N389 o l l.length i)) (fun fuel o i=>step388 o l l.length i Λ388 K fuel) l.length 0 o (by omega) ho (by simp) h
 ·cases h
theorem r388 (l:List Int) (f:FuncId) (hf:f=N389):run Γ388 Λ388 [(0,live388)] F388 [.one (.sl false U none l),.one (.fn N389 [])] [.sl true Subset]=
 bif decide (0≤(l.length:Int))&&decide ((l.length:Int)≤l.length)&&decide ((16:Int)*l.length≤281474976710656)then
  bif Nat.beq N389 N389&&(decide ((l.length:Int)=l.length)&&(decide ((List.replicate (l.length:Int).toNat (Subset.dflt)).length=l.length)&&decide (l.length≤1000000)))then some (.one (.sl true Subset none (wholeS l)))else none else none:=by kernel_rfl
def s388:Sp:= .fn [.v (.sl U),.raw] fun x=>match x.2 with
 | .one (.fn f [])=>(Nat.beq f N389&&decide (x.1.length ≤1000000),.one (.sl true Subset none (wholeS x.1)))
 |_=>(false,AV.junk)
theorem g388:GoodS Tryz.prog N388 s388:=by
 refine good (OrcOk.cons g389 (.nil _)) H388 rfl (by kernel_rfl) Λ388 [(0,live388)] (oneLoop (p0:=loop1 F388) (by kernel_rfl) loop388) [.v (.sl U),.raw] (by decide) [.sl true Subset] _ fun x r hw h=> ?_
 obtain⟨l,c⟩:=x
 simp only at h
 split at h
 ·rename_i f
  simp only[Prod.mk.injEq,Bool.and_eq_true,decide_eq_true_eq]at h
  obtain⟨⟨hf,hl⟩,rfl⟩:=h
  obtain rfl:=Nat.eq_of_beq_eq_true hf
  refine(r388 l N389 rfl).trans ?_
  rw[decide_eq_true (show 0≤(l.length:Int) by omega),decide_eq_true (show(l.length:Int)≤l.length by omega),decide_eq_true (show(16:Int)*l.length≤281474976710656 by omega),decide_eq_true hl]
  simp only[Int.toNat_natCast,List.length_replicate,decide_true,Bool.and_self,cond_true,Bool.and_true]
  rfl
 ·cases h
def Γ356:Orc:=orc [(N387,s387),(N388,s388)]
def rls2 (l:List Subset.D) (e:Int):AV:= .tup [(false,[.sl true Subset none l]),(false,[.int .i64 e])]
theorem r356 (a:Int) (l:List Int):run Γ356 noL [] F356 [.one (.int .i64 a),.one (.sl false U none l)] [.sl true Subset,.id]=
 bif Nat.beq N389 N389&&decide ((hangI a l).1.length ≤1000000)then some (rls2 (wholeS (hangI a l).1) (hangI a l).2)else none:=by kernel_rfl
def s356:Sp:= .fn [.v I,.v (.sl U)] fun x=>(decide ((hangI x.1 x.2).1.length ≤1000000),rls2 (wholeS (hangI x.1 x.2).1) (hangI x.1 x.2).2)
theorem g356:GoodS Tryz.prog N356 s356:=by
 refine good (OrcOk.cons g387 (.cons g388 (.nil _))) H356 rfl (by kernel_rfl) noL [] (noLoops (by kernel_rfl)) [.v I,.v (.sl U)] (by decide) [.sl true Subset,.id] _ fun x r hw h=> ?_
 obtain⟨a,l⟩:=x
 simp only[Prod.mk.injEq]at h
 obtain⟨hl,rfl⟩:=h
 refine(r356 a l).trans ?_
 rw[hl];rfl
def cutO (a:Int) (l:List Int) (top:Int):List Subset.D:=bif (downI a l top).1 != top then [(top,(downI a l top).1)]else []
def cutK (R:Int→List Subset.D→List Subset.D×Int) (a d:Int) (out:List Subset.D):List Subset.D×Int:=
 bif (childI a d 0).2==4 then(out,0)else bif (childI a d 0).2 != 0 then(out,(childI a d 0).2)else
 bif (R (childI a d 0).1 out).2 != 0 then R (childI a d 0).1 out else
 bif (childI a d 1).2==4 then((R (childI a d 0).1 out).1,0)else bif (childI a d 1).2 != 0 then((R (childI a d 0).1 out).1,(childI a d 1).2)else R (childI a d 1).1 (R (childI a d 0).1 out).1
def cutR (a:Int) (l:List Int):Nat→Int→List Subset.D→List Subset.D×Int
 |0,_,out=>(out,0)
 |f+1,top,out=>bif (downI a l top).2 != 0 then(out,(downI a l top).2)else cutK (cutR a l f) a (downI a l top).1 (out++cutO a l top)
def okC (ok:Int→Bool) (a d:Int) (j:Int):Bool:=bif (childI a d j).2 != 0 then true else ok (childI a d j).1
def cutOk (a:Int) (l:List Int):Nat→Int→Bool
 |0,_=>false
 |f+1,top=>bif (downI a l top).2 != 0 then true else okC (cutOk a l f) a (downI a l top).1 0&&okC (cutOk a l f) a (downI a l top).1 1
theorem cutR_len {a:Int} {l:List Int}: ∀(f:Nat) (top:Int) (out:List Subset.D),(cutR a l f top out).1.length +1≤out.length+2^f:=by
 intro f
 induction f with
 |zero=>intro top out;rw[cutR];simp
 |succ f ih=>
  intro top out
  have hp:=Nat.two_pow_pos f
  have ho:(cutO a l top).length≤1:=by unfold cutO;cases (downI a l top).1 != top<;>simp
  rw[cutR,Nat.pow_succ]
  cases (downI a l top).2 != 0 with
  |true=>simp only[cond_true];omega
  |false=>
   simp only[cond_false]
   have h0:=ih (childI a (downI a l top).1 0).1 (out++cutO a l top)
   have h1:=ih (childI a (downI a l top).1 1).1 (cutR a l f (childI a (downI a l top).1 0).1 (out++cutO a l top)).1
   rw[List.length_append]at h0
   have hl:(out++cutO a l top).length=out.length+(cutO a l top).length:=List.length_append
   unfold cutK
   generalize cutR a l f (childI a (downI a l top).1 0).1 (out++cutO a l top)=r0 at*
   generalize cutR a l f (childI a (downI a l top).1 1).1 r0.1=r1 at*
   generalize childI a (downI a l top).1 0=c0
   generalize childI a (downI a l top).1 1=c1
   cases c0.2==4 with
   |true=>simp only[cond_true];omega
   |false=>
    cases c0.2 != 0 with
    |true=>simp only[cond_true,cond_false];omega
    |false=>
     cases r0.2 != 0 with
     |true=>simp only[cond_true,cond_false];omega
     |false=>
      cases c1.2==4 with
      |true=>simp only[cond_true,cond_false];omega
      |false=>
       cases c1.2 != 0 with
       |true=>simp only[cond_true,cond_false];omega
       |false=>simp only[cond_false];omega
def castS (s:Nat×Nat):Subset.D:=((s.1:Int),(s.2:Int))
theorem chainC_cast (n d:Nat):(chainC n d).map castS=bif ((d:Int) != (n:Int))then [((n:Int),(d:Int))]else []:=by
 unfold chainC
 by_cases h:d≠n
 ·rw[if_pos h,show((d:Int) != (n:Int))=true by simp;omega];rfl
 ·rw[if_neg h,show((d:Int) != (n:Int))=false by simp;omega];rfl
theorem cut_run {a:Int} {l:List Int} {H:Nat} {S:List Nat} (s:SetN a l H S) (h:lokB a l=true): ∀(f n:Nat),okN H n=true→H-n.log2<f→(∃i∈S,abv n (leafN H i)=true)→
 cutOk a l f (n:Int)=true∧ ∃c,CutN H S n c∧ ∀out,cutR a l f (n:Int) out=(out++c.map castS,0):=by
 intro f
 induction f with
 |zero=>intro n _ h;omega
 |succ f ih=>
  intro n hn hf hne
  obtain⟨d,d1,d2,d3⟩:=down_law s h hn hne
  have hdl:n.log2≤d.log2:=(abv_iff.1 d2.abv).1
  have hdH:d.log2≤H:=(okN_log (okN_ne d2.okd)).1 (okN_iff.1 d2.okd).2.2.2
  have k0:childI a (d:Int) 0=_:=child_nat s.ha d2.okd (sd:=0) (by omega)
  have k1:childI a (d:Int) 1=_:=child_nat s.ha d2.okd (sd:=1) (by omega)
  have eo:cutO a l (n:Int)=(chainC n d).map castS:=by rw[chainC_cast];unfold cutO;rw[d1]
  by_cases hlog:d.log2=H
  ·rw[if_pos hlog]at k0 k1
   refine⟨?_,_,.leaf d2 hlog,fun out=> ?_⟩
   ·rw[cutOk,d1]
    unfold okC
    rw[k0,k1];rfl
   ·rw[cutR,d1,eo]
    unfold cutK
    rw[k0];rfl
  ·rw[if_neg hlog]at k0 k1
   obtain⟨f1,f2⟩:=d3 (by omega)
   obtain⟨l1,l2⟩:=log2_two (okN_ne d2.okd)
   obtain⟨o0,c0,p1,p2⟩:=ih (2*d) (okN_kid (sd:=0) d2.okd (by omega) (by omega)) (by rw[l1];omega) f1
   obtain⟨o1,c1,q1,q2⟩:=ih (2*d+1) (okN_kid (sd:=1) d2.okd (by omega) (by omega)) (by rw[l2];omega) f2
   rw[Nat.add_zero]at k0
   refine⟨?_,_,.fork d2 (by omega) p1 q1,fun out=> ?_⟩
   ·rw[cutOk,d1]
    unfold okC
    rw[k0,k1]
    simp only[bne_self_eq_false,cond_false]
    rw[o0,o1];rfl
   ·rw[cutR,d1,eo]
    unfold cutK
    rw[k0,k1]
    simp only[bne_self_eq_false,cond_false]
    rw[show((0:Int)==4)=false from rfl,p2]
    simp only[bne_self_eq_false,cond_false]
    rw[q2]
    simp only[List.map_append,List.append_assoc]
def diffI (a:Int) (l:List Int):List Subset.D×Int:=
 bif (belowR a l 1).2 != 0 then([],(belowR a l 1).2)else bif !decide (((belowR a l 1).1.length :Int)>0)then([(1,0)],0)else
 bif (cutR a l 40 1 []).2 != 0 then([],(cutR a l 40 1 []).2)else(sortQ (cutR a l 40 1 []).1,0)
def partsI (a:Int):List Subset.D→List Subset.D→Option (List Subset.D)
 |[],out=>some out
 |s::r,out=>bif (splitI a s).2 != 0 then none else partsI a r (out++(splitI a s).1)
def partsE (a:Int):List Subset.D→Int
 |[]=>0
 |s::r=>bif (splitI a s).2 != 0 then(splitI a s).2 else partsE a r
def coverI (a k:Int) (l:List Int):List Subset.D×Int:=
 bif schE a k != 0 then([],schE a k)else bif k==1 then(wholeS (hangI a l).1,(hangI a l).2)else
 bif (bif (diffI a l).2 != 0 then true else k==2)then diffI a l else
 match partsI a (diffI a l).1 []with
 |none=>([],partsE a (diffI a l).1)
 |some out=>(sortQ out,0)
structure CovOk (a k:Int) (l:List Int) (c:List Subset.D):Prop where
 ok: ∀s∈c,∃i j:Nat,s=((i:Int),(j:Int))∧okS a.toNat i j=true∧mayI a k s=(true,0)
 cnt: ∀i:Nat,i<2^a.toNat→c.countP (fun s=>hasN a.toNat s.1.toNat s.2.toNat i)=if(i:Int)∈l then 0 else 1
 len:c.length≤4*33*1024
theorem okS_may {a k:Int} {H i j:Nat} (ha:a=(H:Int)) (hk:schE a k=0) (hs:okS H i j=true):mayI a k ((i:Int),(j:Int))=bif k==1 then((j:Int)==0,0)else bif k==2 then(bif (j:Int) != 0 then true else(i:Int)==1,0)else useI a ((i:Int),(j:Int)):=by
 obtain⟨k1,k2⟩:=okS_iff.1 hs
 obtain⟨h1,h2,h3,h4⟩:=okN_iff.1 k1
 have hp:=pow32 h2
 have hp1:2^(H+1)=2*2^H:=by rw[Nat.pow_succ];omega
 have u: ∀ {n:Nat},n<2^64→IntKind.u64.has (n:Int):=fun {n} hn=>⟨by show(0:Int)≤n;omega,by show(n:Int)≤18446744073709551615;omega⟩
 have hj:j<2^(H+1):=by
  rcases k2 with rfl|⟨h,_⟩
  ·exact Nat.two_pow_pos _
  ·exact(okN_iff.1 h).2.2.2
 have hsub:subE a ((i:Int),(j:Int))=0:=by
  rw[subE_nat (u (by omega)) (u (by omega)),ha]
  simp only[Int.toNat_natCast]
  rw[hs];rfl
 unfold mayI mayB3
 rw[hk,hsub];rfl
theorem cast_cnt {a:Int} {H:Nat} (ha:a.toNat=H) (c:List (Nat×Nat)) (i:Nat):(c.map castS).countP (fun s=>hasN a.toNat s.1.toNat s.2.toNat i)=cntN H c i:=by
 unfold cntN
 rw[List.countP_map,ha];rfl
structure DifN (H:Nat) (S:List Nat) (c:List (Nat×Nat)):Prop where
 ok: ∀s∈c,okS H s.1 s.2=true∧(s.2≠0∨s=(1,0))
 cnt: ∀i,i<2^H→cntN H c i=if i∈S then 0 else 1
 len:c.length≤2048
theorem DifN.perm {H:Nat} {S:List Nat} {c d:List (Nat×Nat)} (h:DifN H S c) (hp:d.Perm c):DifN H S d:=
 ⟨fun s hs=>h.ok s (hp.mem_iff.1 hs),fun i hi=>by rw[←h.cnt i hi];unfold cntN;exact hp.countP_eq _,by rw[hp.length_eq];exact h.len⟩
theorem sort_cast (c:List (Nat×Nat)): ∃d:List (Nat×Nat),sortQ (c.map castS)=d.map castS∧d.Perm c:=by
 refine⟨(sortQ (c.map castS)).map fun s=>(s.1.toNat,s.2.toNat), ?_, ?_⟩
 ·rw[List.map_map]
  conv=>lhs;rw[←List.map_id (sortQ (c.map castS))]
  refine List.map_congr_left fun x hx=> ?_
  obtain⟨y,_,rfl⟩:=List.mem_map.1 (sortQ_mem.1 hx)
  rfl
 ·have:=(sortQ_perm (c.map castS)).map fun s:Subset.D=>(s.1.toNat,s.2.toNat)
  rw[List.map_map]at this
  have e:c.map ((fun s:Subset.D=>(s.1.toNat,s.2.toNat))∘castS)=c:=by
   conv=>rhs;rw[←List.map_id c]
   exact List.map_congr_left fun x _=>rfl
  rw[e]at this
  exact this
theorem SetN.below1 {a:Int} {l:List Int} {H:Nat} {S:List Nat} (s:SetN a l H S) (h:lokB a l=true):belowR a l 1=(l,0):=by
 have ho:okN H 1=true:=by rw[okN_one,decide_eq_true s.h1,decide_eq_true s.h2];rfl
 have hle:(leavesI a 1).2=0:=by
  have:=(within_nat (h:=a) (n:=1) (i:=0) (by decide) (by decide) (by rw[s.ha,Int.toNat_natCast];exact ho) (by exact Nat.two_pow_pos _)).1
  exact this
 have hb:belowB a l 1=false:=by
  unfold belowB lchkI
  rw[hle,h];rfl
 have hbl:belowL a l 1=l:=by
  have:=s.below ho
  rw[show((1:Nat):Int)=1 from rfl]at this
  rw[this,List.filter_eq_self.2 fun i _=>abv_one leafN_ne,←s.map]
 unfold belowR
 rw[hb,hbl];rfl
theorem diff_law {a:Int} {l:List Int} {H:Nat} {S:List Nat} (s:SetN a l H S) (h:lokB a l=true): ∃c,diffI a l=(c.map castS,0)∧DifN H S c:=by
 have ho:okN H 1=true:=by rw[okN_one,decide_eq_true s.h1,decide_eq_true s.h2];rfl
 unfold diffI
 rw[s.below1 h]
 simp only[bne_self_eq_false,cond_false]
 cases hS:S with
 |nil=>
  have hl:l=[]:=by rw[s.map,hS];rfl
  rw[hl]
  refine⟨[(1,0)],rfl,fun x hx=> ?_,fun i hi=> ?_,by simp⟩
  ·rw[List.mem_singleton.1 hx]
   exact⟨okS_iff.2 ⟨ho,.inl rfl⟩,.inr rfl⟩
  ·unfold cntN
   rw[List.countP_cons_of_pos (by rw[has_whole];exact abv_one leafN_ne)];rfl
 |cons x r=>
  have hlen:0<l.length:=by rw[s.map,hS];simp
  rw[decide_eq_true (show(l.length:Int)>0 by omega)]
  simp only[Bool.not_true,cond_false]
  obtain⟨_,c,c1,c2⟩:=cut_run s h 40 1 ho (by have:=s.h2;omega) ⟨x,by rw[hS];simp,abv_one leafN_ne⟩
  have c2:cutR a l 40 1 []=_:=c2 []
  rw[c2,List.nil_append]
  simp only[bne_self_eq_false,cond_false]
  obtain⟨d,d1,d2⟩:=sort_cast c
  rw[←hS]
  have hc:DifN H S c:=by
   refine⟨fun x hx=>⟨(cut_ok c1 x hx).1,.inl (cut_ok c1 x hx).2⟩,fun i hi=> ?_, ?_⟩
   ·rw[cut_cnt s.lt c1 hi,abv_one leafN_ne,Bool.true_and]
    by_cases hin:i∈S
    ·rw[if_pos hin,List.contains_iff_mem.2 hin];rfl
    ·rw[if_neg hin]
     cases hc:S.contains i with
     |false=>rfl
     |true=>exact absurd (List.contains_iff_mem.1 hc) hin
   ·have h1:=cut_len s.lt c1
    have h2:S.countP (fun i=>abv 1 (leafN H i))≤S.length:=List.countP_le_length
    have:=s.len
    omega
  exact⟨d,by rw[d1],hc.perm d2⟩
theorem parts_law {a:Int} {H:Nat} (ha:a=(H:Int)): ∀(c:List (Nat×Nat)),(∀s∈c,okS H s.1 s.2=true∧(s.2≠0∨s=(1,0)))→ ∃d:List (Nat×Nat),(∀out,partsI a (c.map castS) out=some (out++d.map castS))∧d.length≤2*c.length∧
 (∀s∈d,okS H s.1 s.2=true∧useI a (castS s)=(true,0))∧ ∀i,cntN H d i=cntN H c i:=by
 intro c
 induction c with
 |nil=>intro _;exact⟨[],fun out=>by rw[List.map_nil,partsI,List.append_nil],by simp,(fun s hs=>nomatch hs),fun i=>rfl⟩
 |cons x c ih=>
  intro hc
  obtain⟨d,d1,d2,d3,d4⟩:=ih fun s hs=>hc s (by simp [hs])
  obtain⟨h1,h2⟩:=hc x (by simp)
  have hx: ∃e:List (Nat×Nat),splitI a (castS x)=(e.map castS,0)∧e.length≤2∧(∀s∈e,okS H s.1 s.2=true∧useI a (castS s)=(true,0))∧ ∀i,cntN H e i=(hasN H x.1 x.2 i).toNat:=by
   rcases h2 with h2|rfl
   ·obtain⟨e,e1,e2,e3,e4⟩:=split_law ha h1 h2
    exact⟨e,e1,e2,fun s hs=>⟨(e3 s hs).1,(e3 s hs).2.2⟩,e4⟩
   ·have hu:useI a (castS (1,0))=(true,0):=by
     have hsub:subE a ((1:Int),(0:Int))=0:=by
      rw[subE_nat (s:=((1:Int),(0:Int))) ⟨by decide,by decide⟩ ⟨by decide,by decide⟩,ha]
      have h1:okS H 1 0=true:=h1
      simp only[Int.toNat_natCast]
      show(bif okS H 1 0 then(0:Int)else 1)=0
      rw[h1];rfl
     unfold useI
     show(bif subE a ((1:Int),(0:Int)) != 0 then _ else _)=_
     rw[hsub];rfl
    refine⟨[(1,0)], ?_,by simp,fun s hs=> ?_,fun i=> ?_⟩
    ·unfold splitI;rw[hu];rfl
    ·rw[List.mem_singleton.1 hs];exact⟨h1,hu⟩
    ·unfold cntN
     rw[List.countP_cons,List.countP_nil]
     cases hasN H 1 0 i<;>rfl
  obtain⟨e,e1,e2,e3,e4⟩:=hx
  refine⟨e++d,fun out=> ?_,by rw[List.length_append,List.length_cons];omega,fun s hs=> ?_,fun i=> ?_⟩
  ·rw[List.map_cons,partsI,e1]
   simp only[bne_self_eq_false,cond_false]
   rw[d1,List.map_append,List.append_assoc]
  ·rcases List.mem_append.1 hs with hs|hs
   ·exact e3 s hs
   ·exact d3 s hs
  ·rw[cnt_app,e4,d4]
   unfold cntN
   rw[List.countP_cons]
   cases hasN H x.1 x.2 i<;>simp<;>omega
theorem hang_len (a:Int) (l:List Int):(hangI a l).1.length ≤2*33*1024+1:=by
 unfold hangI
 cases (bif lchkI a l==0 then(l.length:Int)==0 else false)with
 |true=>simp
 |false=>
  simp only[cond_false]
  unfold hangT
  cases hc:(treeI a l).2 != 0 with
  |true=>simp
  |false=>
   simp only[cond_false]
   have h: ∀(t t2 hs:List Int),(hangG a t t2 hs).length≤hs.length+2*t2.length:=by
    intro t t2
    induction t2 with
    |nil=>intro hs;rw[hangG];omega
    |cons x r ih=>
     intro hs
     have:=ih (hs++kidsL a t x)
     have:=kidsL_len a t x
     rw[List.length_append]at*
     rw[hangG,List.length_cons]
     omega
   have h1:=h (treeI a l).1 (treeI a l).1 []
   have h2:(treeI a l).1.length ≤33*1024:=by
    unfold treeI
    cases hc:lchkI a l != 0 with
    |true=>exact Nat.zero_le _
    |false=>
     obtain⟨hl,h3,_⟩:=lok_len (lchk_ok hc)
     have h4:=highB_iff.1 (chk_zero h3).1
     have h:=treeG_len (a+1).toNat (l.map fun x=>(leafI a x).1) []
     rw[List.length_map]at h
     have h5:=Nat.mul_le_mul (show(a+1).toNat≤33 by omega) hl
     show(treeG (a+1).toNat (l.map fun x=>(leafI a x).1) []).length≤_
     simp only[List.length_nil]at h
     omega
   simp only[List.length_nil]at h1
   omega
theorem cover_law {a k:Int} {l:List Int} (hk:schE a k=0) (h:lokB a l=true) (hu: ∀x∈l,IntKind.u64.has x):(coverI a k l).2=0∧CovOk a k l (coverI a k l).1:=by
 have s:=setN_of h hu
 have hmem: ∀i:Nat,i∈l.map Int.toNat↔(i:Int)∈l:=fun i=>by
  rw[List.mem_map]
  constructor
  ·rintro⟨x,hx,e⟩
   have:0≤x:=(hu x hx).1
   rwa [show(i:Int)=x by omega]
  ·intro h;exact⟨_,h,Int.toNat_natCast i⟩
 have hmi: ∀i:Nat,(if i∈l.map Int.toNat then 0 else 1:Nat)=if(i:Int)∈l then 0 else 1:=fun i=>by
  by_cases hin:i∈l.map Int.toNat
  ·rw[if_pos hin,if_pos ((hmem i).1 hin)]
  ·rw[if_neg hin,if_neg fun h=>hin ((hmem i).2 h)]
 have hkr:1≤k∧k≤3:=by
  unfold schE at hk
  cases h1:decide (k<1)with
  |true=>rw[h1]at hk;cases hk
  |false=>
   rw[h1]at hk
   cases h2:decide (k>3)with
   |true=>rw[h2]at hk;cases hk
   |false=>have:=of_decide_eq_false h1;have:=of_decide_eq_false h2;omega
 have ecast: ∀s:Nat×Nat,castS s=((s.1:Int),(s.2:Int)):=fun s=>rfl
 unfold coverI
 rw[hk]
 simp only[bne_self_eq_false,cond_false]
 cases hk1:k==1 with
 |true=>
  have hk1:k=1:=eq_of_beq hk1
  simp only[cond_true]
  obtain⟨g1,g,g2,g3,g4⟩:=hang_law h hu
  have ew:wholeS (hangI a l).1=(g.map fun n=>(n,0)).map castS:=by
   rw[g2];unfold wholeS;rw[List.map_map,List.map_map];rfl
  refine⟨g1,fun x hx=> ?_,fun i hi=> ?_, ?_⟩
  ·rw[ew]at hx
   obtain⟨p,hp,rfl⟩:=List.mem_map.1 hx
   obtain⟨n,hn,rfl⟩:=List.mem_map.1 hp
   have ho:okS a.toNat n 0=true:=okS_iff.2 ⟨g3 n hn,.inl rfl⟩
   refine⟨n,0,rfl,ho, ?_⟩
   show mayI a k ((n:Int),((0:Nat):Int))=_
   rw[okS_may s.ha hk ho,hk1];rfl
  ·rw[ew,cast_cnt rfl]
   unfold cntN
   rw[List.countP_map,←g4 i hi]
   refine List.countP_congr fun n hn=> ?_
   show hasN _ n 0 i=true↔_
   rw[has_whole]
  ·have:=hang_len a l
   unfold wholeS
   rw[List.length_map];omega
 |false=>
  simp only[cond_false]
  obtain⟨c,c1,c2⟩:=diff_law s h
  rw[c1]
  simp only[bne_self_eq_false,cond_false]
  cases hk2:k==2 with
  |true=>
   have hk2:k=2:=eq_of_beq hk2
   refine⟨rfl,fun x hx=> ?_,fun i hi=> ?_, ?_⟩
   ·obtain⟨p,hp,rfl⟩:=List.mem_map.1 hx
    obtain⟨o1,o2⟩:=c2.ok p hp
    refine⟨p.1,p.2,rfl,o1, ?_⟩
    rw[ecast,okS_may s.ha hk o1,hk2]
    rcases o2 with o2|rfl
    ·show(bif ((p.2:Int) != 0)then true else(p.1:Int)==1,(0:Int))=_
     rw[show((p.2:Int) != 0)=true by simp;omega];rfl
    ·rfl
   ·show(c.map castS).countP _=_
    rw[cast_cnt rfl,c2.cnt i hi,hmi]
   ·show(c.map castS).length≤_
    rw[List.length_map];have:=c2.len;omega
  |false=>
   obtain⟨d,d1,d2,d3,d4⟩:=parts_law s.ha c c2.ok
   simp only[cond_false]
   rw[d1,List.nil_append]
   obtain⟨e,e1,e2⟩:=sort_cast d
   simp only[e1]
   refine⟨trivial,fun x hx=> ?_,fun i hi=> ?_, ?_⟩
   ·obtain⟨p,hp,rfl⟩:=List.mem_map.1 hx
    obtain⟨o1,o2⟩:=d3 p (e2.mem_iff.1 hp)
    refine⟨p.1,p.2,rfl,o1, ?_⟩
    rw[ecast,okS_may s.ha hk o1,hk1,hk2]
    exact o2
   ·rw[cast_cnt rfl]
    have:cntN a.toNat e i=cntN a.toNat d i:=by unfold cntN;exact e2.countP_eq _
    rw[this,d4,c2.cnt i hi,hmi]
   ·rw[List.length_map,e2.length_eq];have:=c2.len;omega
theorem cover_err {a k:Int} {l:List Int} (hk:schE a k=0) (h:lokB a l=false):(coverI a k l).2≠0:=by
 have hc:lchkI a l=1:=by unfold lchkI;rw[h];rfl
 have hd:(diffI a l).2=1:=by
  have hb:belowB a l 1=true:=by
   unfold belowB
   rw[hc]
   cases (leavesI a 1).2 != 0<;>rfl
  unfold diffI belowR
  rw[hb];rfl
 have hh:(hangI a l).2=1:=by
  unfold hangI treeI
  rw[hc];rfl
 unfold coverI
 rw[hk]
 simp only[bne_self_eq_false,cond_false]
 cases k==1 with
 |true=>show(hangI a l).2≠0;rw[hh];decide
 |false=>
  rw[hd]
  show(diffI a l).2≠0
  rw[hd];decide
def Γ358:Orc:=orc [(N327,s327),(N365,s365'),(N363,s363)]
def splE (h:Int) (s:Subset.D):Int:=bif (stepI h).2 != 0 then(stepI h).2 else depE h s
def splN (h:Int) (s:Subset.D):Int:=bif (stepI h).2 != 0 then 0 else nxI (depthI h s.1).1 (stepI h).1 h
theorem r358 (h:Int) (s:Subset.D):run Γ358 noL [] F358 [.one (.int .i64 h),encV Subset s] [.sl true Subset,.id]=
 bif (useI h s).2 != 0 then some (rls2 [] (useI h s).2)else bif (bif (useI h s).1 then true else s.2==0)then some (rls2 [s] 0)else
 bif splE h s != 0 then some (rls2 [] (splE h s))else some (rls2 [(s.1,(upI h s.2 (splN h s)).1),((upI h s.2 (splN h s)).1,s.2)] (upI h s.2 (splN h s)).2):=by kernel_rfl
def s358:Sp:= .fn [.v I,.v Subset] fun x=>(true,rls2 (splitI x.1 x.2).1 (splitI x.1 x.2).2)
theorem g358:GoodS Tryz.prog N358 s358:=by
 refine good (OrcOk.cons g327 (.cons (s365_eq▸g365) (.cons g363 (.nil _)))) H358 rfl (by kernel_rfl) noL [] (noLoops (by kernel_rfl)) [.v I,.v Subset] (by decide) [.sl true Subset,.id] _ fun x r hw e=> ?_
 obtain⟨h,s⟩:=x
 cases e
 refine(r358 h s).trans ?_
 show _=some (rls2 (splitI h s).1 (splitI h s).2)
 unfold splitI
 cases h1:(useI h s).2 != 0 with
 |true=>rfl
 |false=>
  cases h2:(bif (useI h s).1 then true else s.2==0)with
  |true=>rfl
  |false=>
   have h3:(s.2==0)=false:=by
    cases h4:(useI h s).1 with
    |true=>rw[h4]at h2;cases h2
    |false=>rw[h4]at h2;exact h2
   have h5:(useI h s).2=splE h s:=by
    unfold useI at h1⊢
    cases h6:subE h s != 0 with
    |true=>rw[h6]at h1;simp only[cond_true]at h1;rw[h6]at h1;cases h1
    |false=>rw[h3];rfl
   rw[h5]at h1
   have h7:((stepI h).2 != 0)=false:=by
    unfold splE at h1
    cases h8:(stepI h).2 != 0 with
    |true=>rw[h8]at h1;simp only[cond_true]at h1;rw[h8]at h1;cases h1
    |false=>rfl
   rw[h1]
   unfold splN
   rw[h7];rfl
def cutB (a:Int) (l:List Int) (f:Nat) (top:Int) (out:List Subset.D):Bool:=cutOk a l f top&&decide (out.length+2^f≤2199023255552)
def s391 (f:Nat):Sp:= .io fun x p gs=>match x,p,gs with
 |[.one (.ptr 0 0),.one (.int .u64 top)],1,[.own [.int .i64 a,.sl false (.int .u64) none l,.hot 1 none],.arr false (.pair (.int .u64) (.int .u64)) out]=>
  some (cutB a l f top out,.one (.int .i64 (cutR a l f top out).2),[.own [.int .i64 a,.sl false U none l,.hot 1 none],.arr true Subset (cutR a l f top out).1])
 |_,_,_=>none
def Γ391 (f:Nat):Orc:=orcLf 67 [(N415,s415),(N416,s416),(N391,s391 f)]
abbrev live391:List (Nat×Dir):=[(0,.keep),(4,.keep),(5,.keep),(38,.keep),(41,.keep),(66,.keep),(67,.keep)]
def vs391 (a:Int) (l:List Int) (e d:Int) (out:List Subset.D) (j:Int):List AV:=[.one (.ptr 66 0),.one (.int .i64 e),.one (.int .u64 d),.one .junk,.one (.int .i64 j),.gho (AV.own [.int .i64 a,.sl false U none l,.hot 67 none]).ov,.gho (AV.arr true Subset out).ov]
def vs391b (a:Int) (l:List Int) (e d:Int) (out:List Subset.D) (j:Int):List AV:=[.one (.ptr 66 0),.one (.int .i64 e),.one (.int .u64 d),.arr true Subset out,.one (.int .i64 j),.gho (AV.own [.int .i64 a,.sl false U none l,.hot 38 none]).ov,.gho OV.none]
noncomputable abbrev lo391 (f:Nat) (Λ:Lam (AV×List AV)) (K:AE→List AV→Option (AV×List AV)) (fuel:Nat) (vs:List AV):Option (AV×List AV):=loopN (aexec tb (Γ391 f) Λ ⟨66,2,[(0,live391)]⟩ (loop1 F391).2 0) 66 2 live391 K fuel vs
theorem step391 (f:Nat) (a:Int) (l:List Int) (e d:Int) (out:List Subset.D) (j:Int) (Λ:Lam (AV×List AV)) (K:AE→List AV→Option (AV×List AV)) (fuel:Nat):lo391 f Λ K (fuel+1) (vs391 a l e d out j)=
 bif decide (j<2)then bif (childI a d j).2==4 then K (.exit 0) (vs391 a l e d out j)else bif (childI a d j).2 != 0 then K .ret (vs391 a l (childI a d j).2 d out j)else
  bif cutB a l f (childI a d j).1 out then bif (cutR a l f (childI a d j).1 out).2 != 0 then K .ret (vs391 a l (cutR a l f (childI a d j).1 out).2 d (cutR a l f (childI a d j).1 out).1 j)else
   lo391 f Λ K fuel (vs391 a l e d (cutR a l f (childI a d j).1 out).1 (IntKind.i64.wrap (j+1)))else none
 else K (.exit 0) (vs391 a l e d out j):=by kernel_rfl
theorem step391b (f:Nat) (a:Int) (l:List Int) (e d:Int) (out:List Subset.D) (j:Int) (Λ:Lam (AV×List AV)) (K:AE→List AV→Option (AV×List AV)) (fuel:Nat):lo391 f Λ K (fuel+1) (vs391b a l e d out j)=
 bif decide (j<2)then bif (childI a d j).2==4 then K (.exit 0) (vs391b a l e d out j)else bif (childI a d j).2 != 0 then K .ret (vs391b a l (childI a d j).2 d out j)else
  bif cutB a l f (childI a d j).1 out then bif (cutR a l f (childI a d j).1 out).2 != 0 then K .ret (vs391 a l (cutR a l f (childI a d j).1 out).2 d (cutR a l f (childI a d j).1 out).1 j)else
   lo391 f Λ K fuel (vs391 a l e d (cutR a l f (childI a d j).1 out).1 (IntKind.i64.wrap (j+1)))else none
 else K (.exit 0) (vs391b a l e d out j):=by kernel_rfl
def okL (a:Int) (l:List Int) (f:Nat) (d:Int) (out:List Subset.D):Bool:=(okC (cutOk a l f) a d 0&&okC (cutOk a l f) a d 1)&&decide (out.length+2^f+2^f≤2199023255553)
def cutV {ρ:Type} (R:Int→List Subset.D→List Subset.D×Int) (a d:Int) (out:List Subset.D) (X0 E0 X E:Int→List Subset.D→Int→ρ):ρ:=
 bif (childI a d 0).2==4 then X0 0 out 0 else bif (childI a d 0).2 != 0 then E0 (childI a d 0).2 out 0 else
 bif (R (childI a d 0).1 out).2 != 0 then E (R (childI a d 0).1 out).2 (R (childI a d 0).1 out).1 0 else
 bif (childI a d 1).2==4 then X 0 (R (childI a d 0).1 out).1 1 else bif (childI a d 1).2 != 0 then E (childI a d 1).2 (R (childI a d 0).1 out).1 1 else
 bif (R (childI a d 1).1 (R (childI a d 0).1 out).1).2 != 0 then E (R (childI a d 1).1 (R (childI a d 0).1 out).1).2 (R (childI a d 1).1 (R (childI a d 0).1 out).1).1 1 else X 0 (R (childI a d 1).1 (R (childI a d 0).1 out).1).1 2
def Λ391 (f:Nat):Lam (AV×List AV):=fun _ vs K=>
 match vs with
 |[.one (.ptr 66 0),.one (.int .i64 0),.one (.int .u64 d),.one .junk,.one (.int .i64 0),.gho (.own [.int .i64 a,.sl false (.int .u64) none l,.hot 67 none]),.gho (.arr true (.pair (.int .u64) (.int .u64)) out)]=>
  bif okL a l f d out then cutV (cutR a l f) a d out (fun e o j=>K (.exit 0) (vs391 a l e d o j)) (fun e o j=>K .ret (vs391 a l e d o j)) (fun e o j=>K (.exit 0) (vs391 a l e d o j)) (fun e o j=>K .ret (vs391 a l e d o j))else none
 |[.one (.ptr 66 0),.one (.int .i64 0),.one (.int .u64 d),.arr true (.pair (.int .u64) (.int .u64)) out,.one (.int .i64 0),.gho (.own [.int .i64 a,.sl false (.int .u64) none l,.hot 38 none]),.gho .none]=>
  bif okL a l f d out then cutV (cutR a l f) a d out (fun e o j=>K (.exit 0) (vs391b a l e d o j)) (fun e o j=>K .ret (vs391b a l e d o j)) (fun e o j=>K (.exit 0) (vs391 a l e d o j)) (fun e o j=>K .ret (vs391 a l e d o j))else none
 |_=>none
theorem go391 {ρ:Type} {a:Int} {l:List Int} {f:Nat} {d:Int} {out:List Subset.D} (hok:okL a l f d out=true) {F0 F:Nat→List Subset.D→Int→Option ρ} {X0 E0 X E:Int→List Subset.D→Int→Option ρ}
 (step0: ∀fuel o j,F0 (fuel+1) o j=bif decide (j<2)then bif (childI a d j).2==4 then X0 0 o j else bif (childI a d j).2 != 0 then E0 (childI a d j).2 o j else
  bif cutB a l f (childI a d j).1 o then bif (cutR a l f (childI a d j).1 o).2 != 0 then E (cutR a l f (childI a d j).1 o).2 (cutR a l f (childI a d j).1 o).1 j else F fuel (cutR a l f (childI a d j).1 o).1 (IntKind.i64.wrap (j+1))else none
  else X0 0 o j)
 (step: ∀fuel o j,F (fuel+1) o j=bif decide (j<2)then bif (childI a d j).2==4 then X 0 o j else bif (childI a d j).2 != 0 then E (childI a d j).2 o j else
  bif cutB a l f (childI a d j).1 o then bif (cutR a l f (childI a d j).1 o).2 != 0 then E (cutR a l f (childI a d j).1 o).2 (cutR a l f (childI a d j).1 o).1 j else F fuel (cutR a l f (childI a d j).1 o).1 (IntKind.i64.wrap (j+1))else none
  else X 0 o j):
 F0 3 out 0=cutV (cutR a l f) a d out X0 E0 X E:=by
 unfold okL at hok
 simp only[Bool.and_eq_true,decide_eq_true_eq]at hok
 obtain⟨⟨h0,h1⟩,hl⟩:=hok
 have d0:decide ((0:Int)<2)=true:=rfl
 have d1:decide ((1:Int)<2)=true:=rfl
 have d2:decide ((2:Int)<2)=false:=rfl
 have w0:IntKind.i64.wrap (0+1)=1:=by decide
 have w1:IntKind.i64.wrap (1+1)=2:=by decide
 have hlen:=cutR_len (a:=a) (l:=l) f (childI a d 0).1 out
 have hp:=Nat.two_pow_pos f
 unfold cutV
 rw[step0,d0,w0]
 cases c0:(childI a d 0).2==4 with
 |true=>rfl
 |false=>
  cases c1:(childI a d 0).2 != 0 with
  |true=>rfl
  |false=>
   have b0:cutB a l f (childI a d 0).1 out=true:=by
    unfold okC at h0
    rw[c1]at h0
    have h0:cutOk a l f (childI a d 0).1=true:=h0
    unfold cutB
    rw[h0,decide_eq_true (by omega)];rfl
   rw[b0]
   cases c2:(cutR a l f (childI a d 0).1 out).2 != 0 with
   |true=>rfl
   |false=>
    simp only[cond_true,cond_false]
    rw[step,d1,w1]
    cases c3:(childI a d 1).2==4 with
    |true=>rfl
    |false=>
     cases c4:(childI a d 1).2 != 0 with
     |true=>rfl
     |false=>
      have b1:cutB a l f (childI a d 1).1 (cutR a l f (childI a d 0).1 out).1=true:=by
       unfold okC at h1
       rw[c4]at h1
       have h1:cutOk a l f (childI a d 1).1=true:=h1
       unfold cutB
       rw[h1,decide_eq_true (by omega)];rfl
      rw[b1]
      cases c5:(cutR a l f (childI a d 1).1 (cutR a l f (childI a d 0).1 out).1).2 != 0 with
      |true=>rfl
      |false=>
       simp only[cond_true,cond_false]
       rw[step,d2];rfl
theorem loop391 (f:Nat):LoopP tb (Γ391 f) (Λ391 f) ⟨66,2,[(0,live391)]⟩ (loop1 F391):=by
 intro vs K out h
 have hcur:(loop1 F391).1=0:=by kernel_rfl
 rw[hcur]at h⊢
 unfold Λ391 at h
 split at h
 ·rename_i d a l o
  cases hc:okL a l f d o with
  |false=>rw[hc]at h;cases h
  |true=>
   rw[hc]at h
   refine⟨3,Eq.trans ?_ h⟩
   exact go391 hc (F0:=fun fuel o j=>lo391 f (Λ391 f) K fuel (vs391 a l 0 d o j)) (F:=fun fuel o j=>lo391 f (Λ391 f) K fuel (vs391 a l 0 d o j)) (X0:=fun e o j=>K (.exit 0) (vs391 a l e d o j)) (E0:=fun e o j=>K .ret (vs391 a l e d o j)) (X:=fun e o j=>K (.exit 0) (vs391 a l e d o j)) (E:=fun e o j=>K .ret (vs391 a l e d o j))
    (fun fuel o j=>step391 f a l 0 d o j (Λ391 f) K fuel) (fun fuel o j=>step391 f a l 0 d o j (Λ391 f) K fuel)
 ·rename_i d o a l
  cases hc:okL a l f d o with
  |false=>rw[hc]at h;cases h
  |true=>
   rw[hc]at h
   refine⟨3,Eq.trans ?_ h⟩
   exact go391 hc (F0:=fun fuel o j=>lo391 f (Λ391 f) K fuel (vs391b a l 0 d o j)) (F:=fun fuel o j=>lo391 f (Λ391 f) K fuel (vs391 a l 0 d o j)) (X0:=fun e o j=>K (.exit 0) (vs391b a l e d o j)) (E0:=fun e o j=>K .ret (vs391b a l e d o j)) (X:=fun e o j=>K (.exit 0) (vs391 a l e d o j)) (E:=fun e o j=>K .ret (vs391 a l e d o j))
    (fun fuel o j=>step391b f a l 0 d o j (Λ391 f) K fuel) (fun fuel o j=>step391 f a l 0 d o j (Λ391 f) K fuel)
 ·cases h
def rt391 (a:Int) (l:List Int) (e:Int) (o:List Subset.D) (_:Int):Option (AV×List AV):=some (.one (.int .i64 e),[.own [.int .i64 a,.sl false U none l,.hot 1 none],.arr true Subset o])
def LL391 (a:Int) (l:List Int) (f:Nat) (d:Int) (o:List Subset.D):Option (AV×List AV):=bif okL a l f d o then cutV (cutR a l f) a d o (rt391 a l) (rt391 a l) (rt391 a l) (rt391 a l)else none
theorem r391 (f:Nat) (a:Int) (l:List Int) (top:Int) (out:List Subset.D):runIO (Γ391 f) (Λ391 f) 2 [(0,live391)] F391 [.one (.ptr 66 0),.one (.int .u64 top)] [.own [.int .i64 a,.sl false U none l,.hot 67 none],.arr true Subset out] 1 []=
 bif (downI a l top).2 != 0 then rt391 a l (downI a l top).2 out 0 else bif (downI a l top).1 != top then
  (bif decide ((out.length+[(top,(downI a l top).1)].length)*16≤140737488355328)then LL391 a l f (downI a l top).1 (out++[(top,(downI a l top).1)])else none)else LL391 a l f (downI a l top).1 out:=by kernel_rfl
theorem LL391_ok {a:Int} {l:List Int} {f:Nat} {d:Int} {o:List Subset.D} (hok:okL a l f d o=true):LL391 a l f d o=rt391 a l (cutK (cutR a l f) a d o).2 (cutK (cutR a l f) a d o).1 0:=by
 unfold LL391 cutV cutK rt391
 rw[hok]
 simp only[cond_true]
 generalize cutR a l f (childI a d 0).1 o=r0
 generalize cutR a l f (childI a d 1).1 r0.1=r1
 generalize childI a d 0=c0
 generalize childI a d 1=c1
 cases h0:c0.2==4 with
 |true=>rfl
 |false=>
  cases c0.2 != 0 with
  |true=>rfl
  |false=>
   cases r0.2 != 0 with
   |true=>rfl
   |false=>
    cases c1.2==4 with
    |true=>rfl
    |false=>
     cases c1.2 != 0 with
     |true=>rfl
     |false=>
      simp only[cond_false]
      cases h1:r1.2 != 0 with
      |true=>rfl
      |false=>
       have:r1.2=0:=by simpa using h1
       rw[this];rfl
theorem run391 (f:Nat) (a:Int) (l:List Int) (top:Int) (out:List Subset.D) (hb:cutB a l (f+1) top out=true):runIO (Γ391 f) (Λ391 f) 2 [(0,live391)] F391 [.one (.ptr 66 0),.one (.int .u64 top)] [.own [.int .i64 a,.sl false U none l,.hot 67 none],.arr true Subset out] 1 []=
 some (.one (.int .i64 (cutR a l (f+1) top out).2),[.own [.int .i64 a,.sl false U none l,.hot 1 none],.arr true Subset (cutR a l (f+1) top out).1]):=by
 rw[r391]
 unfold cutB at hb
 rw[Bool.and_eq_true,decide_eq_true_eq,Nat.pow_succ]at hb
 obtain⟨h1,h2⟩:=hb
 have hp:=Nat.two_pow_pos f
 rw[cutR]
 rw[cutOk]at h1
 cases hd:(downI a l top).2 != 0 with
 |true=>rfl
 |false=>
  rw[hd]at h1
  have h1:(okC (cutOk a l f) a (downI a l top).1 0&&okC (cutOk a l f) a (downI a l top).1 1)=true:=h1
  unfold cutO
  cases ht:(downI a l top).1 != top with
  |true=>
   simp only[cond_true,cond_false]
   rw[decide_eq_true (show(out.length+[(top,(downI a l top).1)].length)*16≤140737488355328 by rw[List.length_singleton];omega)]
   simp only[cond_true]
   rw[LL391_ok]
   ·rfl
   ·unfold okL
    rw[h1,List.length_append,List.length_singleton,decide_eq_true (show out.length+1+2^f+2^f≤2199023255553 by omega)];rfl
  |false=>
   simp only[cond_false,List.append_nil]
   rw[LL391_ok]
   ·rfl
   ·unfold okL
    rw[h1,decide_eq_true (by omega)];rfl
theorem Γ391ok {f:Nat} (h:GoodS Tryz.prog N391 (s391 f)):OrcOk Tryz.prog (Γ391 f):=OrcOk.toLf 67 (.cons g415 (.cons g416 (.cons h (.nil _))))
theorem io391 {f:Nat} (h:GoodS Tryz.prog N391 (s391 f)) (a:Int) (l:List Int) (top:Int) (out:List Subset.D) (hb:cutB a l (f+1) top out=true):
 GoodIO Tryz.prog N391 [.one (.ptr 0 0),.one (.int .u64 top)] 1 [.own [.int .i64 a,.sl false U none l,.hot 1 none],.arr true Subset out] (.one (.int .i64 (cutR a l (f+1) top out).2)) [.own [.int .i64 a,.sl false U none l,.hot 1 none],.arr true Subset (cutR a l (f+1) top out).1]:=
 goodIO1 (Γ391ok h) H391 rfl (Λ391 f) 2 [(0,live391)] (fun p hp=>by
  have e:loopsOf 0 (body F391)=[loop1 F391]:=by kernel_rfl
  rw[e]at hp
  rw[List.mem_singleton.1 hp];exact loop391 f) [.one (.ptr 0 0),.one (.int .u64 top)] [.own [.int .i64 a,.sl false U none l,.hot 1 none],.arr true Subset out] 1
  (ys:=[.one (.ptr 66 0),.one (.int .u64 top)]) (hs:=[.own [.int .i64 a,.sl false U none l,.hot 67 none],.arr true Subset out]) rfl rfl rfl (Nat.le_succ 1) (by show 2≤_;decide) (Nat.le_refl 2) [] (run391 f a l top out hb) (fun x hx=>by cases hx;decide)
theorem g391: ∀f,GoodS Tryz.prog N391 (s391 f):=by
 intro f
 induction f with
 |zero=>
  refine GoodS.io (callable_of H391 (bd rfl) (by kernel_rfl)) fun a p gs r gs' hw1 hw2 h=> ?_
  unfold s391 at h
  split at h
  ·cases h
  ·cases h
 |succ f ih=>
  refine GoodS.io (callable_of H391 (bd rfl) (by kernel_rfl)) fun a p gs r gs' hw1 hw2 h=> ?_
  clear hw1 hw2
  unfold s391 at h
  split at h
  ·rename_i top a l out
   simp only[Option.some.injEq,Prod.mk.injEq]at h
   obtain⟨hb,rfl,rfl⟩:=h
   exact(io391 ih a l top out hb).tightIn (gs:=[.own [.int .i64 a,.sl false U none l,.hot 1 none],.arr false Subset out]) fun fr t xs hm=>by
    rcases List.mem_cons.1 hm with e|hm
    ·cases e
    ·rcases List.mem_cons.1 hm with e|hm
     ·cases e;exact .inl rfl
     ·cases hm
  ·cases h
end Go.AM.Seat
