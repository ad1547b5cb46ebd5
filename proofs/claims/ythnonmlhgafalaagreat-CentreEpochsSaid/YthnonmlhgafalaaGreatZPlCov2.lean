import Derived.Test.YthnonmlhgafalaaGreatZPlCov
set_option linter.unusedVariables false
namespace Go.AM.Seat
open Go Go.AM
theorem leafN_inj {H i j:Nat} (h:leafN H i=leafN H j):i=j:=by unfold leafN at h;omega
theorem countP_flat {α β:Type} {f:α→List β} {p:β→Bool} {q:α→Bool}: ∀ {l:List α},(∀x∈l,(f x).countP p=(q x).toNat)→(l.flatMap f).countP p=l.countP q:=by
 intro l
 induction l with
 |nil=>intro _;rfl
 |cons x l ih=>
  intro h
  rw[List.flatMap_cons,List.countP_append,h x (by simp),ih fun y hy=>h y (by simp [hy])]
  cases hq:q x with
  |true=>rw[List.countP_cons_of_pos hq];show 1+_=_;omega
  |false=>rw[List.countP_cons_of_neg (by rw[hq];simp)];show 0+_=_;omega
structure TreeN (H:Nat) (S t:List Nat):Prop where
 nd:t.Nodup
 mem: ∀x,x∈t↔ ∃i∈S,abv x (leafN H i)=true
def kidsN (H:Nat) (t:List Nat) (x:Nat):List Nat:=if x.log2<H then [2*x,2*x+1].filter fun c=> !t.contains c else []
def edgeB (H:Nat) (t:List Nat) (i x:Nat):Bool:=decide (x.log2<H)&&(abv x (leafN H i)&& !t.contains (upN (leafN H i) (x.log2+1)))
theorem kids_cnt {H:Nat} {t:List Nat} {i x:Nat} (hx:x≠0) (hi:i<2^H):(kidsN H t x).countP (fun n=>abv n (leafN H i))=(edgeB H t i x).toNat:=by
 have hl:=leafN_log2 hi
 have h0:=leafN_ne (h:=H) (i:=i)
 unfold kidsN edgeB
 by_cases h:x.log2<H
 ·rw[if_pos h,decide_eq_true h,Bool.true_and]
  obtain⟨l1,l2⟩:=log2_two hx
  have e1:abv (2*x) (leafN H i)=true→upN (leafN H i) (x.log2+1)=2*x:=fun e=>by rw[←l1];exact(abv_upN e).symm
  have e2:abv (2*x+1) (leafN H i)=true→upN (leafN H i) (x.log2+1)=2*x+1:=fun e=>by rw[←l2];exact(abv_upN e).symm
  obtain⟨k1,k2⟩:=abv_kids h0 hx (by rw[hl];exact h)
  rw[k1]
  rw[List.countP_filter]
  cases a1:abv (2*x) (leafN H i)with
  |true=>
   rw[a1]at k2
   rw[e1 a1]
   have k2:abv (2*x+1) (leafN H i)=false:=k2
   simp only[List.countP_cons,List.countP_nil,a1,k2,Bool.true_and,Bool.false_and,Bool.true_or]
   cases t.contains (2*x)<;>simp
  |false=>
   cases a2:abv (2*x+1) (leafN H i)with
   |true=>
    rw[e2 a2]
    simp only[List.countP_cons,List.countP_nil,a1,a2,Bool.true_and,Bool.false_and,Bool.false_or]
    cases t.contains (2*x+1)<;>simp
   |false=>simp [a1,a2]
 ·rw[if_neg h,decide_eq_false h];rfl
theorem hang_cnt {H:Nat} {S t:List Nat} (hS: ∀i∈S,i<2^H) (hne:S≠[]) (ht:TreeN H S t) {i:Nat} (hi:i<2^H):
 (t.flatMap (kidsN H t)).countP (fun n=>abv n (leafN H i))=if i∈S then 0 else 1:=by
 have hl:=leafN_log2 hi
 have h0:=leafN_ne (h:=H) (i:=i)
 have hnz: ∀x∈t,x≠0:=fun x hx e=>by
  subst e
  obtain⟨j,hj,hb⟩:=(ht.mem 0).1 hx
  have:=abv_upN hb
  exact upN_ne (leafN_ne (h:=H) (i:=j)) this.symm
 rw[countP_flat (q:=edgeB H t i) fun x hx=>kids_cnt (hnz x hx) hi]
 have hup: ∀x y,y∈t→abv x y=true→x∈t:=fun x y hy hxy=>by
  obtain⟨j,hj,hb⟩:=(ht.mem y).1 hy
  exact(ht.mem x).2 ⟨j,hj,abv_trans hxy hb⟩
 by_cases hin:i∈S
 ·rw[if_pos hin,List.countP_eq_zero]
  intro x hx hq
  unfold edgeB at hq
  simp only[Bool.and_eq_true,decide_eq_true_eq,Bool.not_eq_true']at hq
  obtain⟨q1,q2,q3⟩:=hq
  have:upN (leafN H i) (x.log2+1)∈t:=(ht.mem _).2 ⟨i,hin,upN_abv h0 (by omega)⟩
  have:=List.elem_eq_true_of_mem this
  rw[List.elem_eq_contains]at this
  rw[this]at q3;cases q3
 ·rw[if_neg hin]
  have hroot:upN (leafN H i) 0∈t:=by
   rw[upN_zero h0]
   cases hS':S with
   |nil=>exact absurd hS' hne
   |cons j r=>exact(ht.mem 1).2 ⟨j,by rw[hS'];simp,abv_one leafN_ne⟩
  have hend: ¬upN (leafN H i) H∈t:=fun h=>by
   have e:upN (leafN H i) H=leafN H i:=by have:=upN_self (leafN H i);rwa [hl]at this
   rw[e]at h
   obtain⟨j,hj,hb⟩:=(ht.mem _).1 h
   rw[abv_leaf (by rw[hl,leafN_log2 (hS j hj)])]at hb
   have:=leafN_inj (of_decide_eq_true hb)
   subst this
   exact hin hj
  have hex: ∃d,d<H∧upN (leafN H i) d∈t∧ ¬upN (leafN H i) (d+1)∈t:=by
   have key: ∀m,m≤H→upN (leafN H i) m∈t∨ ∃d,d<H∧upN (leafN H i) d∈t∧ ¬upN (leafN H i) (d+1)∈t:=by
    intro m
    induction m with
    |zero=>intro _;exact .inl hroot
    |succ m ih=>
     intro hm
     rcases ih (by omega)with h|h
     ·by_cases h':upN (leafN H i) (m+1)∈t
      ·exact .inl h'
      ·exact .inr ⟨m,by omega,h,h'⟩
     ·exact .inr h
   exact(key H (Nat.le_refl _)).resolve_left hend
  obtain⟨d,d1,d2,d3⟩:=hex
  have hdl:(upN (leafN H i) d).log2=d:=upN_log h0 (by omega)
  refine countP_one ht.nd d2 ?_ fun y hy hq=> ?_
  ·unfold edgeB
   rw[hdl,decide_eq_true d1,upN_abv h0 (by omega)]
   cases hc:t.contains (upN (leafN H i) (d+1))with
   |false=>rfl
   |true=>exact absurd (List.contains_iff_mem.1 hc) d3
  ·unfold edgeB at hq
   simp only[Bool.and_eq_true,decide_eq_true_eq,Bool.not_eq_true']at hq
   obtain⟨q1,q2,q3⟩:=hq
   have hy':=abv_upN q2
   have q3: ¬upN (leafN H i) (y.log2+1)∈t:=fun h=>by
    rw[List.contains_iff_mem.2 h]at q3;cases q3
   rcases Nat.lt_trichotomy y.log2 d with h|h|h
   ·exact absurd (hup _ _ d2 (upN_up h0 (by omega) (by omega))) q3
   ·rw[hy',h]
   ·exact absurd (hup _ _ (hy'▸hy) (upN_up h0 (by omega) (by omega))) d3
structure DownN (H:Nat) (S:List Nat) (n d:Nat):Prop where
 okn:okN H n=true
 okd:okN H d=true
 abv:abv n d=true
 some: ∃x∈S,Seat.abv d (leafN H x)=true
 all: ∀x∈S,Seat.abv n (leafN H x)=true→Seat.abv d (leafN H x)=true
def chainC (n d:Nat):List (Nat×Nat):=if d≠n then [(n,d)]else []
inductive CutN (H:Nat) (S:List Nat):Nat→List (Nat×Nat)→Prop
 |leaf {n d:Nat}:DownN H S n d→d.log2=H→CutN H S n (chainC n d)
 |fork {n d:Nat} {c0 c1:List (Nat×Nat)}:DownN H S n d→d.log2<H→CutN H S (2*d) c0→CutN H S (2*d+1) c1→CutN H S n (chainC n d++(c0++c1))
theorem okN_ne {H n:Nat} (h:okN H n=true):n≠0:=by have:=(okN_iff.1 h).2.2.1;omega
theorem chain_cnt {H n d i:Nat} (hd:d≠0):cntN H (chainC n d) i=if d≠n then(abv n (leafN H i)&& !abv d (leafN H i)).toNat else 0:=by
 unfold chainC cntN
 by_cases h:d≠n
 ·rw[if_pos h,if_pos h,List.countP_cons,List.countP_nil,has_chain hd]
  cases abv n (leafN H i)&& !abv d (leafN H i)<;>rfl
 ·rw[if_neg h,if_neg h];rfl
theorem cut_cnt {H:Nat} {S:List Nat} (hS: ∀i∈S,i<2^H) {n:Nat} {c:List (Nat×Nat)} (hc:CutN H S n c) {i:Nat} (hi:i<2^H):
 cntN H c i=(abv n (leafN H i)&& !S.contains i).toNat:=by
 have hl:=leafN_log2 hi
 have h0:=leafN_ne (h:=H) (i:=i)
 induction hc with
 | @leaf n d hd hlog=>
   obtain⟨x,hx,hx'⟩:=hd.some
   have hxl:=leafN_log2 (hS x hx)
   rw[abv_leaf (by rw[hxl,hlog])]at hx'
   have ex:leafN H x=d:=of_decide_eq_true hx'
   rw[chain_cnt (okN_ne hd.okd)]
   have ed:abv d (leafN H i)=true→i=x:=fun h=>by
    rw[abv_leaf (by rw[hl,hlog])]at h
    exact leafN_inj ((of_decide_eq_true h).trans ex.symm)
   by_cases hin:i∈S
   ·rw[List.contains_iff_mem.2 hin]
    have hall:=hd.all i hin
    cases e1:abv n (leafN H i)with
    |false=>simp
    |true=>rw[hall e1];simp
   ·have:S.contains i=false:=by
     cases h:S.contains i with
     |false=>rfl
     |true=>exact absurd (List.contains_iff_mem.1 h) hin
    rw[this]
    have e2:abv d (leafN H i)=false:=by
     cases h:abv d (leafN H i)with
     |false=>rfl
     |true=>exact absurd (by rw[ed h];exact hx) hin
    rw[e2]
    by_cases h:d≠n
    ·rw[if_pos h]
    ·rw[if_neg h]
     have h:d=n:=Decidable.not_not.1 h
     rw[←h,e2];rfl
 | @fork n d c0 c1 hd hlog _ _ ih0 ih1=>
   rw[cnt_app,cnt_app,ih0,ih1,chain_cnt (okN_ne hd.okd)]
   obtain⟨k1,k2⟩:=abv_kids h0 (okN_ne hd.okd) (by rw[hl];exact hlog)
   have hall:=hd.all i
   have hsub:abv d (leafN H i)=true→abv n (leafN H i)=true:=fun h=>abv_trans hd.abv h
   have hdn:d=n→abv n (leafN H i)=abv d (leafN H i):=fun e=>by rw[e]
   by_cases hin:i∈S
   ·rw[List.contains_iff_mem.2 hin]
    have hall:=hall hin
    by_cases h:d≠n
    ·rw[if_pos h]
     cases e1:abv n (leafN H i)with
     |false=>simp
     |true=>rw[hall e1];simp
    ·rw[if_neg h];simp
   ·have:S.contains i=false:=by
     cases h:S.contains i with
     |false=>rfl
     |true=>exact absurd (List.contains_iff_mem.1 h) hin
    rw[this]
    by_cases h:d≠n
    ·rw[if_pos h]
     cases e1:abv n (leafN H i)with
     |false=>
      have e2:abv d (leafN H i)=false:=by
       cases h:abv d (leafN H i)with
       |false=>rfl
       |true=>rw[hsub h]at e1;cases e1
      rw[e2]at k1
      obtain⟨a,b⟩:=Bool.or_eq_false_iff.1 k1.symm
      rw[a,b];rfl
     |true=>
      rw[k1]
      cases a:abv (2*d) (leafN H i)<;>cases b:abv (2*d+1) (leafN H i)<;>first|rfl|(rw[a,b]at k2;cases k2)
    ·rw[if_neg h,hdn (Decidable.not_not.1 h),k1]
     cases a:abv (2*d) (leafN H i)<;>cases b:abv (2*d+1) (leafN H i)<;>first|rfl|(rw[a,b]at k2;cases k2)
theorem cut_ok {H:Nat} {S:List Nat} {n:Nat} {c:List (Nat×Nat)} (hc:CutN H S n c): ∀s∈c,okS H s.1 s.2=true∧s.2≠0:=by
 have one: ∀ {n d:Nat},DownN H S n d→ ∀s∈chainC n d,okS H s.1 s.2=true∧s.2≠0:=fun {n d} hd s hs=>by
  unfold chainC at hs
  by_cases h:d≠n
  ·rw[if_pos h,List.mem_singleton]at hs
   subst hs
   exact⟨okS_iff.2 ⟨hd.okn,.inr ⟨hd.okd,hd.abv,fun e=>h e.symm⟩⟩,okN_ne hd.okd⟩
  ·rw[if_neg h]at hs;cases hs
 induction hc with
 |leaf hd _=>exact one hd
 |fork hd _ _ _ ih0 ih1=>
  intro s hs
  rcases List.mem_append.1 hs with h|h
  ·exact one hd s h
  ·rcases List.mem_append.1 h with h|h
   ·exact ih0 s h
   ·exact ih1 s h
theorem chain_len (n d:Nat):(chainC n d).length≤1:=by
 unfold chainC
 by_cases h:d≠n
 ·rw[if_pos h];exact Nat.le_refl 1
 ·rw[if_neg h];exact Nat.zero_le _
theorem countP_mono' {α:Type} {p q:α→Bool} {l:List α} (h: ∀x∈l,p x=true→q x=true):l.countP p≤l.countP q:=List.countP_mono_left h
theorem countP_or {α:Type} {p q r:α→Bool}: ∀ {l:List α},(∀x∈l,r x=(p x||q x)∧(p x&&q x)=false)→l.countP r=l.countP p+l.countP q:=by
 intro l
 induction l with
 |nil=>intro _;rfl
 |cons x l ih=>
  intro h
  obtain⟨h1,h2⟩:=h x (by simp)
  have:=ih fun y hy=>h y (by simp [hy])
  cases hp:p x<;>cases hq:q x<;>rw[hp,hq]at h1 h2<;>simp_all<;>omega
theorem cut_len {H:Nat} {S:List Nat} (hS: ∀i∈S,i<2^H) {n:Nat} {c:List (Nat×Nat)} (hc:CutN H S n c):c.length+1≤2*S.countP fun i=>abv n (leafN H i):=by
 induction hc with
 | @leaf n d hd hlog=>
   have:=chain_len n d
   obtain⟨x,hx,hx'⟩:=hd.some
   have:0<S.countP fun i=>abv n (leafN H i):=List.countP_pos_iff.2 ⟨x,hx,abv_trans hd.abv hx'⟩
   omega
 | @fork n d c0 c1 hd hlog _ _ ih0 ih1=>
   have:=chain_len n d
   have h1:S.countP (fun i=>abv d (leafN H i))=S.countP (fun i=>abv (2*d) (leafN H i))+S.countP fun i=>abv (2*d+1) (leafN H i):=
    countP_or fun x hx=>abv_kids leafN_ne (okN_ne hd.okd) (by rw[leafN_log2 (hS x hx)];exact hlog)
   have h2:S.countP (fun i=>abv d (leafN H i))≤S.countP fun i=>abv n (leafN H i):=countP_mono' fun x _ h=>abv_trans hd.abv h
   rw[List.length_append,List.length_append]
   omega
end Go.AM.Seat
