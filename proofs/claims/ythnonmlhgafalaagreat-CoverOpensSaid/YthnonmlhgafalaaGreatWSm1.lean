import Derived.Test.YthnonmlhgafalaaGreatWM18
set_option linter.unusedVariables false
set_option linter.unusedSimpArgs false
set_option maxRecDepth 100000
namespace Go.AM.Seat
open Go Go.AM Go.Proofs
theorem upLoopJ {α:Type} {n:Nat} {F:Nat→α→Int→Option AV} {G:Nat→α→Option AV} {Inv:Nat→α→Prop} (h1: ∀fuel a,Inv n a→F (fuel+1) a n=G n a)
 (h2: ∀a (j:Nat),j<n→Inv j a→(∃a',Inv (j+1) a'∧(∀fuel,F (fuel+1) a j=F fuel a' ((j+1:Nat):Int))∧G j a=G (j+1) a')∨(∀fuel,F (fuel+1) a j=G j a)):
 ∀(m j:Nat) (a:α) (out:AV),j+m=n→Inv j a→G j a=some out→ ∃fuel,F fuel a j=some out:=by
 intro m
 induction m with
 |zero=>
  intro j a out hj hi h
  obtain rfl:j=n:=by omega
  exact⟨1,(h1 0 a hi).trans h⟩
 |succ m ih=>
  intro j a out hj hi h
  rcases h2 a j (by omega) hi with⟨a',g0,g1,g2⟩|g
  ·obtain⟨fuel,hf⟩:=ih (j+1) a' out (by omega) g0 (g2▸h)
   exact⟨fuel+1,(g1 fuel).trans hf⟩
  ·exact⟨1,(g 0).trans h⟩
abbrev live376:List (Nat×Dir):=[(3,.keep),(4,.keep),(5,.keep)]
def vs376 (n k i:Int):List AV:=[.one (.int .u64 n),.one (.int .i64 k),.one (.int .i64 i)]
noncomputable abbrev lp376 (Λ:Lam AV) (K:AE→List AV→Option AV) (fuel:Nat) (vs:List AV):Option AV:=loopN (aexec tb (orc []) Λ ⟨11,0,[(0,live376)]⟩ (loopK F376 0).2 0) 11 0 live376 K fuel vs
theorem step376 (n k i:Int) (Λ:Lam AV) (fuel:Nat) (K:AE→List AV→Option AV):lp376 Λ K (fuel+1) (vs376 n k i)=
 bif decide (i<k)then lp376 Λ K fuel (vs376 (IntKind.u64.wrap (2*n)) k (IntKind.i64.wrap (i+1)))else K (.exit 0) (vs376 n k i):=by kernel_rfl
def powI (k:Int):Int:=((2^k.toNat:Nat):Int)
def Λ376:Lam AV:=fun cur vs K=>
 match cur,vs with
 |0,[.one (.int .u64 1),.one (.int .i64 k),.one (.int .i64 0)]=>bif decide (0≤k)&&decide (k≤33)then K (.exit 0) (vs376 (powI k) k k)else none
 |_,_=>none
theorem loop376:LoopP tb (orc []) Λ376 ⟨11,0,[(0,live376)]⟩ (loopK F376 0):=by
 intro vs K out e
 have hcur:(loopK F376 0).1=0:=by kernel_rfl
 rw[hcur]at e⊢
 unfold Λ376 at e
 split at e
 ·rename_i k _
  cases hc:(decide (0≤k)&&decide (k≤33))with
  |false=>rw[hc]at e;cases e
  |true=>
   rw[hc]at e
   simp only[cond_true]at e
   simp only[Bool.and_eq_true,decide_eq_true_eq]at hc
   obtain⟨N,rfl⟩:=Int.eq_ofNat_of_zero_le hc.1
   refine upLoopJ (α:=Int) (n:=N) (F:=fun fuel n i=>lp376 Λ376 K fuel (vs376 n N i))
    (G:=fun j _=>K (.exit 0) (vs376 (powI N) N N)) (Inv:=fun j n=>n=((2^j:Nat):Int)) (fun fuel n hi=> ?_) (fun n j hj hi=> ?_) N 0 1 out (by omega) rfl e
   ·rw[step376,nlt_dec,cond_false,hi];rfl
   ·left
    subst hi
    have hp:2^j≤2^33:=Nat.pow_le_pow_right (by decide) (by omega)
    have hp0:=Nat.two_pow_pos j
    refine⟨((2^(j+1):Nat):Int),rfl,fun fuel=> ?_,rfl⟩
    rw[step376,lt_dec hj,cond_true,wrap64 (n:=(j:Int)+1) (by omega) (by omega),wrapU (by omega) (by omega),Nat.pow_succ]
    congr 2;omega
 ·cases e
theorem r376 (k:Int):run (orc []) Λ376 [(0,live376)] F376 (encA [.v I] k) []=bif decide (0≤k)&&decide (k≤33)then some (.one (.int .u64 (powI k)))else none:=by kernel_rfl
def s376:Sp:= .fn [.v I] fun k=>(decide (0≤k)&&decide (k≤33),.one (.int .u64 (powI k)))
theorem g376:GoodS Tryz.prog N376 s376:=by
 refine good (.nil _) H376 rfl (by kernel_rfl) Λ376 [(0,live376)] (oneLoop (p0:=loopK F376 0) (by kernel_rfl) loop376) [.v I] (by decide) [] _ fun k r hw e=> ?_
 have e1:=congrArg Prod.fst e
 have e2:=congrArg Prod.snd e
 simp only at e1 e2
 rw[r376,e1,←e2];rfl
theorem powI_nat {h:Int} (h0:0≤h):powI (h+1)=((2^(h.toNat+1):Nat):Int):=by unfold powI;rw[show(h+1).toNat=h.toNat+1 by omega]
def hn1 (h n:Int):Bool:=bif bif decide (h≥1)then decide (h≤32)else false then decide (n≥1)else false
theorem r374 (h n:Int):run (orc [(N376,s376)]) noL [] F374 (encA [.v I,.v U] (h,n)) []=
 bif decide (0≤IntKind.i64.wrap (h+1))&&decide (IntKind.i64.wrap (h+1)≤33)|| !boolBeq (hn1 h n) true then some (.one (.bool (bif hn1 h n then decide (n<powI (IntKind.i64.wrap (h+1)))else false)))else none:=by kernel_rfl
def mayN (h n:Int):Bool:=okN h.toNat n.toNat
theorem hn1_iff {h n:Int}:hn1 h n=true↔1≤h∧h≤32∧1≤n:=by
 unfold hn1
 cases h1:decide (h≥1)with
 |false=>have:=of_decide_eq_false h1;simp;omega
 |true=>
  cases h2:decide (h≤32)with
  |false=>have:=of_decide_eq_false h2;simp;omega
  |true=>
   have:=of_decide_eq_true h1;have:=of_decide_eq_true h2
   simp;omega
theorem may_guard {h n:Int}:(decide (0≤IntKind.i64.wrap (h+1))&&decide (IntKind.i64.wrap (h+1)≤33)|| !boolBeq (hn1 h n) true)=true:=by
 cases e:hn1 h n with
 |false=>cases (decide (0≤IntKind.i64.wrap (h+1))&&decide (IntKind.i64.wrap (h+1)≤33))<;>rfl
 |true=>
  obtain⟨a,b,_⟩:=hn1_iff.1 e
  rw[wrap64 (by omega) (by omega),decide_eq_true (by omega),decide_eq_true (by omega)];rfl
theorem may_val {h n:Int} (h0:0≤n):(bif hn1 h n then decide (n<powI (IntKind.i64.wrap (h+1)))else false)=mayN h n:=by
 unfold mayN
 cases e:hn1 h n with
 |false=>
  cases ho:okN h.toNat n.toNat with
  |false=>rfl
  |true=>
   obtain⟨a,b,c,_⟩:=okN_iff.1 ho
   rw[hn1_iff.2 ⟨by omega,by omega,by omega⟩]at e;cases e
 |true=>
  obtain⟨a,b,c⟩:=hn1_iff.1 e
  rw[wrap64 (by omega) (by omega),powI_nat (by omega)]
  apply Bool.eq_iff_iff.2
  rw[okN_iff]
  simp only[cond_true,decide_eq_true_eq]
  constructor
  ·intro hx;exact⟨by omega,by omega,by omega,by omega⟩
  ·rintro⟨_,_,_,hx⟩;omega
def s374:Sp:= .fn [.v I,.v U] fun x=>(true,.one (.bool (mayN x.1 x.2)))
theorem g374:GoodS Tryz.prog N374 s374:=by
 refine good (.cons g376 (.nil _)) H374 rfl (by kernel_rfl) noL [] (noLoops (by kernel_rfl)) [.v I,.v U] (by decide) [] _ fun x r hw e=> ?_
 obtain⟨h,n⟩:=x
 cases e
 rw[r374,may_guard,may_val (hasU hw.2).1];rfl
theorem r344 (h n:Int):run (orc [(N376,s376)]) noL [] F344 (encA [.v I,.v U] (h,n)) []=
 bif (bif decide (h<1)then true else decide (h>32))then some (re2 0 1)else bif decide (0≤h)&&decide (h≤33)then
  bif decide (n≥powI h)then some (re2 0 4)else bif decide (0≤h)&&decide (h≤33)then some (re2 (IntKind.u64.wrap (powI h+n)) 0)else none else none:=by kernel_rfl
theorem leaf_run {h n:Int} (h0:0≤n) (h1:n.toNat<2^64):(bif (bif decide (h<1)then true else decide (h>32))then some (re2 0 1)else bif decide (0≤h)&&decide (h≤33)then
 bif decide (n≥powI h)then some (re2 0 4)else bif decide (0≤h)&&decide (h≤33)then some (re2 (IntKind.u64.wrap (powI h+n)) 0)else none else none)=some (re2 (leafI h n).1 (leafI h n).2):=by
 rw[leaf_nat h0 h1]
 unfold leafV
 by_cases hh:1≤h∧h≤32
 ·rw[decide_eq_false (show ¬h<1 by omega),decide_eq_false (show ¬h>32 by omega),decide_eq_true (show 0≤h by omega),decide_eq_true (show h≤33 by omega),
   decide_eq_true (show 1≤h.toNat by omega),decide_eq_true (show h.toNat≤32 by omega)]
  have hp:=pow32 (h:=h.toNat) (by omega)
  by_cases hn:n.toNat<2^h.toNat
  ·have: ¬n≥powI h:=by unfold powI;omega
   rw[decide_eq_false this,decide_eq_true hn]
   have e:IntKind.u64.wrap (powI h+n)=((leafN h.toNat n.toNat:Nat):Int):=by
    unfold powI leafN
    rw[wrapU (by omega) (by omega)];omega
   rw[e];rfl
  ·have:n≥powI h:=by unfold powI;omega
   rw[decide_eq_true this,decide_eq_false hn];rfl
 ·have e1:(decide (1≤h.toNat)&&decide (h.toNat≤32))=false:=by
   cases e:decide (1≤h.toNat)with
   |false=>rfl
   |true=>have:=of_decide_eq_true e;exact decide_eq_false (by omega)
  have e2:(bif decide (h<1)then true else decide (h>32))=true:=by
   cases e:decide (h<1)with
   |true=>rfl
   |false=>have:=of_decide_eq_false e;exact decide_eq_true (by omega)
  rw[e1,e2];rfl
def s344:Sp:= .fn [.v I,.v U] fun x=>(true,re2 (leafI x.1 x.2).1 (leafI x.1 x.2).2)
theorem g344:GoodS Tryz.prog N344 s344:=by
 refine good (.cons g376 (.nil _)) H344 rfl (by kernel_rfl) noL [] (noLoops (by kernel_rfl)) [.v I,.v U] (by decide) [] _ fun x r hw e=> ?_
 obtain⟨h,n⟩:=x
 cases e
 obtain⟨c0,c1,_⟩:=hasU hw.2
 exact(r344 h n).trans (leaf_run c0 c1)
def chainN (n:Nat):List Int:=(List.range (n.log2+1)).map fun d=>((n/2^(n.log2-d):Nat):Int)
theorem chainN_half {n:Nat} (h:2≤n):chainN n=chainN (n/2)++[(n:Int)]:=by
 have hl:1≤n.log2:=by
  rcases Nat.lt_or_ge n.log2 1 with h1|h1
  ·have:=(Nat.log2_lt (show n≠0 by omega)).1 h1;omega
  ·exact h1
 have e1:(n/2).log2=n.log2-1:=by
  have:=log2_div (n:=n) (k:=1) (by omega) hl
  rwa [Nat.pow_one]at this
 unfold chainN
 rw[e1,show n.log2-1+1=n.log2 by omega,List.range_succ,List.map_append]
 congr 1
 ·apply List.map_congr_left
  intro d hd
  have hd:=List.mem_range.1 hd
  congr 1
  rw[show n.log2-d=1+(n.log2-1-d) by omega,←div_div_pow,Nat.pow_one]
 ·simp
theorem chainN_len (n:Nat):(chainN n).length=n.log2+1:=by unfold chainN;simp
def s370a (N:Int):Sp:= .fn [.v U] fun n=>(decide (1≤n)&&decide (n<N),.arr true U (chainN n.toNat))
def s370:Sp:= .fn [.v U] fun n=>(decide (1≤n),.one (.sl true U none (chainN n.toNat)))
def chainR (mk:List Int→AV) (N n:Int):Option AV:=bif n==1 then some (mk [1])else bif decide (1≤IntKind.u64.wrap (n.tdiv 2))&&decide (IntKind.u64.wrap (n.tdiv 2)<N)then
    bif decide (((chainN (IntKind.u64.wrap (n.tdiv 2)).toNat).length+1)*8≤140737488355328)then some (mk (chainN (IntKind.u64.wrap (n.tdiv 2)).toNat++[n]))else none else none
theorem r370a (N n:Int):run (orc [(N370,s370a N)]) noL [] F370 (encA [.v U] n) [.arr U]=chainR (fun l=> .arr true U l) N n:=by kernel_rfl
theorem r370 (N n:Int):run (orc [(N370,s370a N)]) noL [] F370 (encA [.v U] n) [.sl true U]=chainR (fun l=> .one (.sl true U none l)) N n:=by kernel_rfl
theorem chainR_ok {mk:List Int→AV} {N n:Int} (h1:1≤n) (h2:n<N+1) (h3:n.toNat<2^64):chainR mk N n=some (mk (chainN n.toNat)):=by
 unfold chainR
 by_cases e:n=1
 ·subst e;rfl
 ·rw[show(n==1)=false by simpa using e]
  have e1:n.tdiv 2=((n.toNat/2:Nat):Int):=by
   rw[Int.tdiv_eq_ediv_of_nonneg (by omega)];omega
  have e2:IntKind.u64.wrap (n.tdiv 2)=((n.toNat/2:Nat):Int):=by rw[e1,wrapU (by omega) (by omega)]
  have hl:(chainN (n.toNat/2)).length≤64:=by
   rw[chainN_len]
   have:=(Nat.log2_lt (show n.toNat/2≠0 by omega) (k:=63)).2 (by omega)
   omega
  rw[e2,Int.toNat_natCast,decide_eq_true (by omega),decide_eq_true (by omega),decide_eq_true (by omega),chainN_half (show 2≤n.toNat by omega)]
  have e3:((n.toNat:Nat):Int)=n:=by omega
  rw[e3];rfl
theorem g370a: ∀N:Nat,GoodS Tryz.prog N370 (s370a (N:Int))
 |0=>by
  refine good (.nil _) H370 rfl (by kernel_rfl) noL [] (noLoops (by kernel_rfl)) [.v U] (by decide) [.arr U] _ fun n r hw e=> ?_
  have e1:=congrArg Prod.fst e
  simp only[Bool.and_eq_true,decide_eq_true_eq]at e1
  have a:=e1.1
  have b:=e1.2
  exact absurd (Int.lt_of_le_of_lt a b) (by decide)
 |N+1=>by
  refine good (.cons (g370a N) (.nil _)) H370 rfl (by kernel_rfl) noL [] (noLoops (by kernel_rfl)) [.v U] (by decide) [.arr U] _ fun n r hw e=> ?_
  have e1:=congrArg Prod.fst e
  have e2:=congrArg Prod.snd e
  simp only[Bool.and_eq_true,decide_eq_true_eq]at e1 e2
  rw[r370a,chainR_ok e1.1 (by simpa using e1.2) (hasU hw).2.1,←e2]
theorem natLt (n:Int):decide (n<((n.toNat:Nat):Int)+1)=true:=decide_eq_true (by omega)
theorem g370:GoodS Tryz.prog N370 s370:=by
 refine .fn (callable_of H370 (bd rfl) (by kernel_rfl)) fun n r hw e=> ?_
 have g:GoodS Tryz.prog N370 (.fn [.v U] fun x=>(decide (1≤x)&&decide (x<((n.toNat:Nat):Int)+1),.one (.sl true U none (chainN x.toNat)))):=by
  refine good (.cons (g370a n.toNat) (.nil _)) H370 rfl (by kernel_rfl) noL [] (noLoops (by kernel_rfl)) [.v U] (by decide) [.sl true U] _ fun n' r' hw' e'=> ?_
  have e1:=congrArg Prod.fst e'
  have e2:=congrArg Prod.snd e'
  simp only[Bool.and_eq_true,decide_eq_true_eq]at e1 e2
  rw[r370,chainR_ok e1.1 e1.2 (hasU hw').2.1,←e2]
 have e1:=congrArg Prod.fst e
 have e2:=congrArg Prod.snd e
 simp only at e2
 refine g.2.1 (encA [.v U] n) r ?_
 have hlt:decide (n<((n.toNat:Nat):Int)+1)=true:=natLt n
 show some (decide (1≤n)&&decide (n<((n.toNat:Nat):Int)+1),(AV.one (.sl true U none (chainN n.toNat))))=some (true,r)
 rw[hlt,show decide (1≤n)=true from e1,←e2];rfl
theorem chain_any {a b:Nat} (hb:b≠0):(chainN b).any (fun x=>x==(a:Int))=abv a b:=by
 apply Bool.eq_iff_iff.2
 rw[List.any_eq_true,abv_iff]
 unfold chainN
 constructor
 ·rintro⟨x,hx,he⟩
  obtain⟨d,hd,rfl⟩:=List.mem_map.1 hx
  have hd:=List.mem_range.1 hd
  have he:b/2^(b.log2-d)=a:=by have:=eq_of_beq he;omega
  have hl:=log2_div (n:=b) (k:=b.log2-d) hb (by omega)
  rw[he]at hl
  exact⟨by omega,by rw[show b.log2-a.log2=b.log2-d by omega];exact he⟩
 ·rintro⟨h1,h2⟩
  exact⟨_,List.mem_map.2 ⟨a.log2,List.mem_range.2 (by omega),rfl⟩,by rw[h2];simp⟩
theorem allK_any {X E:Option AV} {p:Int→Bool} (l:List Int): ∀(m j:Nat),j+m=l.length→allK (fun _=>X) E (fun j=>p (iAt l j)) m j=bif (l.drop j).any p then X else E:=by
 intro m
 induction m with
 |zero=>intro j hj;rw[List.drop_of_length_le (by omega)];rfl
 |succ m ih=>
  intro j hj
  have h1:j<l.length:=by omega
  rw[allK,ih (j+1) (by omega),List.drop_eq_getElem_cons h1,List.any_cons]
  have e1:iAt l j=l[j]:=by simp [iAt,h1]
  rw[e1]
  cases p l[j]<;>rfl
abbrev live337:List (Nat×Dir):=[(0,.keep),(4,.keep),(8,.keep),(9,.keep),(10,.keep)]
def vs337 (a:Int) (r:Bool) (l:List Int) (n i:Int):List AV:=[.one (.int .u64 a),.one (.bool r),.one (.sl true U none l),.one (.int .i64 n),.one (.int .i64 i)]
noncomputable abbrev lp337 (Λ:Lam AV) (K:AE→List AV→Option AV) (fuel:Nat) (vs:List AV):Option AV:=loopN (aexec tb (orc [(N370,s370)]) Λ ⟨18,0,[(0,live337)]⟩ (loopK F337 0).2 0) 18 0 live337 K fuel vs
theorem step337 (a:Int) (r:Bool) (l:List Int) (n i:Int) (Λ:Lam AV) (fuel:Nat) (K:AE→List AV→Option AV):lp337 Λ K (fuel+1) (vs337 a r l n i)=
 bif decide (i<n)then bif inB i l.length then bif iAt l i==a then K .ret (vs337 a true l n i)else lp337 Λ K fuel (vs337 a r l n (IntKind.i64.wrap (i+1)))else none else K (.exit 0) (vs337 a r l n i):=by kernel_rfl
def Λ337:Lam AV:=fun cur vs K=>
 match cur,vs with
 |0,[.one (.int .u64 a),.one (.bool r),.one (.sl true (.int .u64) none l),.one (.int .i64 n),.one (.int .i64 0)]=>
  bif decide (n=l.length)&&decide (n≤9223372036854775807)then allK (fun j=>K .ret (vs337 a true l n j)) (K (.exit 0) (vs337 a r l n n)) (fun j=>iAt l j==a) n.toNat 0 else none
 |_,_=>none
theorem loop337:LoopP tb (orc [(N370,s370)]) Λ337 ⟨18,0,[(0,live337)]⟩ (loopK F337 0):=by
 intro vs K out e
 have hcur:(loopK F337 0).1=0:=by kernel_rfl
 rw[hcur]at e⊢
 unfold Λ337 at e
 split at e
 ·rename_i a r l n _
  cases hc:(decide (n=l.length)&&decide (n≤9223372036854775807))with
  |false=>rw[hc]at e;cases e
  |true=>
   rw[hc]at e
   simp only[cond_true]at e
   simp only[Bool.and_eq_true,decide_eq_true_eq]at hc
   obtain⟨rfl,hmax⟩:=hc
   refine upLoop (α:=Unit) (n:=l.length) (F:=fun fuel _ j=>lp337 Λ337 K fuel (vs337 a r l l.length j))
    (G:=fun j _=>allK (fun j=>K .ret (vs337 a true l l.length j)) (K (.exit 0) (vs337 a r l l.length l.length)) (fun j=>iAt l j==a) (l.length-j) j)
    (fun fuel _=> ?_) (fun _ j hj=> ?_) l.length 0 () out (by omega) e
   ·simp only[step337,nlt_dec,cond_false,Nat.sub_self,allK]
   ·have hm:l.length-j=(l.length-(j+1))+1:=by omega
    cases hx:iAt l j==a with
    |true=>right;intro fuel;simp only[step337,lt_dec hj,inB_lt hj,hx,cond_true,hm,allK]
    |false=>
     left;refine⟨(),fun fuel=> ?_, ?_⟩
     ·simp only[step337,lt_dec hj,inB_lt hj,hx,cond_true,cond_false]
      rw[wrap64 (by omega) (by omega)];rfl
     ·simp only[hm,allK,hx,cond_false]
 ·cases e
theorem r337 (a b:Int):run (orc [(N370,s370)]) Λ337 [(0,live337)] F337 (encA [.v U,.v U] (a,b)) []=
 bif decide (1≤b)then bif decide (((chainN b.toNat).length:Int)=(chainN b.toNat).length)&&decide (((chainN b.toNat).length:Int)≤9223372036854775807)then
  allK (fun _=>oB true) (oB false) (fun j=>iAt (chainN b.toNat) j==a) ((chainN b.toNat).length:Int).toNat 0 else none else none:=by kernel_rfl
def s337:Sp:= .fn [.v U,.v U] fun x=>(decide (1≤x.2),.one (.bool (isI x.1 x.2)))
theorem chain_small {n:Nat} (h:n<2^64) (h0:n≠0):(chainN n).length≤64:=by
 rw[chainN_len]
 have:=(Nat.log2_lt h0).2 h
 omega
theorem is_run {a b:Int} (a0:0≤a) (h1:decide (1≤b)=true) (b1:b.toNat<2^64):(bif decide (1≤b)then bif decide (((chainN b.toNat).length:Int)=(chainN b.toNat).length)&&decide (((chainN b.toNat).length:Int)≤9223372036854775807)then
 allK (fun _=>oB true) (oB false) (fun j=>iAt (chainN b.toNat) j==a) ((chainN b.toNat).length:Int).toNat 0 else none else none)=oB (isI a b):=by
 have hb:=of_decide_eq_true h1
 have hl:=chain_small b1 (by omega)
 rw[h1,lenMax (l:=chainN b.toNat) (by omega),Int.toNat_natCast]
 simp only[cond_true]
 rw[allK_any (p:=fun x=>x==a) (chainN b.toNat) _ _ (by omega),List.drop_zero]
 have:=chain_any (a:=a.toNat) (b:=b.toNat) (by omega)
 rw[show((a.toNat:Nat):Int)=a by omega]at this
 rw[this]
 unfold isI
 cases abv a.toNat b.toNat<;>rfl
theorem g337:GoodS Tryz.prog N337 s337:=by
 refine good (.cons g370 (.nil _)) H337 rfl (by kernel_rfl) Λ337 [(0,live337)] (oneLoop (p0:=loopK F337 0) (by kernel_rfl) loop337) [.v U,.v U] (by decide) [] _ fun x r hw e=> ?_
 obtain⟨a,b⟩:=x
 have e1:=congrArg Prod.fst e
 have e2:=congrArg Prod.snd e
 simp only at e2
 refine(r337 a b).trans ((is_run (hasU hw.1).1 e1 (hasU hw.2).2.1).trans ?_)
 rw[←e2];rfl
theorem r404 (n:Int):run (orc [(N370,s370)]) noL [] F404 (encA [.v U] n) []=bif decide (1≤n)then some (.one (.int .i64 (IntKind.i64.wrap (((chainN n.toNat).length:Int)-1))))else none:=by kernel_rfl
def s404:Sp:= .fn [.v U] fun n=>(decide (1≤n),.one (.int .i64 (depI n)))
theorem dep_run {n:Int} (h1:decide (1≤n)=true) (b1:n.toNat<2^64):IntKind.i64.wrap (((chainN n.toNat).length:Int)-1)=depI n:=by
 have hb:=of_decide_eq_true h1
 have hl:=chain_small b1 (by omega)
 rw[wrap64 (by omega) (by omega),chainN_len,dep_nat hb];omega
theorem g404:GoodS Tryz.prog N404 s404:=by
 refine good (.cons g370 (.nil _)) H404 rfl (by kernel_rfl) noL [] (noLoops (by kernel_rfl)) [.v U] (by decide) [] _ fun n r hw e=> ?_
 have e1:=congrArg Prod.fst e
 have e2:=congrArg Prod.snd e
 simp only at e2
 refine(r404 n).trans ?_
 rw[show decide (1≤n)=true from e1,dep_run e1 (hasU hw).2.1,←e2];rfl
def othI (h n:Int):Int×Int:=bif !mayN h n then(0,1)else bif n==1 then(0,4)else(xorI n 1,0)
theorem r371 (h n:Int):run (orc [(N374,s374)]) noL [] F371 (encA [.v I,.v U] (h,n)) []=bif !mayN h n then some (re2 0 1)else bif n==1 then some (re2 0 4)else bif n.tmod 2==0 then some (re2 (IntKind.u64.wrap (n+1)) 0)else some (re2 (IntKind.u64.wrap (n-1)) 0):=by kernel_rfl
theorem xor_one_eq {n:Nat}:n^^^1=if n%2=0 then n+1 else n-1:=by
 have h1:=(xor_one n).1
 have h2:(n^^^1)%2=(n%2+1)%2:=by
  have:= @Nat.xor_mod_two_eq_one n 1
  rcases Nat.mod_two_eq_zero_or_one n with h|h
  ·have:=this.2 (fun hx=>by have:=hx.2 rfl;omega)
   omega
  ·have: ¬(n^^^1)%2=1:=fun hx=>(this.1 hx) ⟨fun _=>rfl,fun _=>h⟩
   omega
 split<;>omega
theorem xor_nat' {a:Nat} (ha:a<2^64):xorI a 1=((a^^^1:Nat):Int):=by
 unfold xorI
 have e1:(BitVec.ofInt 64 (a:Int)).toNat=a:=by rw[BitVec.toNat_ofInt];omega
 have e2:(BitVec.ofInt 64 (1:Int)).toNat=1:=by decide
 rw[BitVec.toNat_xor,e1,e2,wrapU]
 ·omega
 ·have:=Nat.xor_lt_two_pow ha (show 1<2^64 by decide);omega
def s371:Sp:= .fn [.v I,.v U] fun x=>(true,re2 (othI x.1 x.2).1 (othI x.1 x.2).2)
theorem two_le {n:Int} (h1:1≤n.toNat) (h:(n==1)=false):2≤n:=by
 have:n≠1:=by simpa using h
 omega
theorem oth_run {n:Int} (h0:2≤n) (h1:n.toNat<2^64):(bif n.tmod 2==0 then some (re2 (IntKind.u64.wrap (n+1)) 0)else some (re2 (IntKind.u64.wrap (n-1)) 0))=some (re2 (xorI n 1) 0):=by
 obtain⟨m,rfl⟩:=Int.eq_ofNat_of_zero_le (show 0≤n by omega)
 rw[Int.toNat_natCast]at h1
 rw[xor_nat' h1,xor_one_eq]
 have e:(m:Int).tmod 2=((m%2:Nat):Int):=by rw[Int.tmod_eq_emod_of_nonneg (by omega)];omega
 rw[e]
 by_cases hm:m%2=0
 ·rw[if_pos hm,hm,wrapU (by omega) (by omega)];rfl
 ·rw[if_neg hm,show(((m%2:Nat):Int)==0)=false by simp;omega,wrapU (n:=(m:Int)-1) (by omega) (by omega),show((m-1:Nat):Int)=(m:Int)-1 by omega];rfl
theorem g371:GoodS Tryz.prog N371 s371:=by
 refine good (.cons g374 (.nil _)) H371 rfl (by kernel_rfl) noL [] (noLoops (by kernel_rfl)) [.v I,.v U] (by decide) [] _ fun x r hw e=> ?_
 obtain⟨h,n⟩:=x
 cases e
 refine(r371 h n).trans ?_
 show _=some (re2 (othI h n).1 (othI h n).2)
 unfold othI
 cases hm:mayN h n with
 |false=>rfl
 |true=>
  cases h1:n==1 with
  |true=>rfl
  |false=>exact oth_run (two_le (okN_iff.1 hm).2.2.1 h1) (hasU hw.2).2.1
theorem eq0_nat {n:Int} (h:0≤n):(n==0)=(n.toNat==0):=by apply Bool.eq_iff_iff.2;simp;omega
theorem ne0_nat {n:Int} (h:0≤n):(n != 0)= !(n.toNat==0):=by unfold bne;rw[eq0_nat h]
theorem one_le {n:Int} (h:n.toNat≠0):decide (1≤n)=true:=decide_eq_true (by omega)
theorem eq_nat {a b:Int} (ha:0≤a) (hb:0≤b):(b==a)=(a.toNat==b.toNat):=by apply Bool.eq_iff_iff.2;simp;omega
def c45 (h:Int) (s:Subset.D):Bool:=bif !mayN h s.2 then true else s.2==s.1
def gd45 (h:Int) (s:Subset.D):Bool:=decide (1≤s.2)|| !(boolBeq (s.2 != 0) true&&boolBeq (c45 h s) false)
theorem r345 (h:Int) (s:Subset.D):run (orc [(N374,s374),(N337,s337)]) noL [] F345 (encA [.v I,.v Subset] (h,s)) []=
 bif !mayN h s.1 then some (.one (.int .i64 1))else bif gd45 h s then
  bif (bif s.2 != 0 then bif c45 h s then true else !isI s.1 s.2 else false)then some (.one (.int .i64 1))else some (.one (.int .i64 0))else none:=by kernel_rfl
theorem check_run {h:Int} {s:Subset.D} (h1:IntKind.u64.has s.1) (h2:IntKind.u64.has s.2):(bif !mayN h s.1 then some (AV.one (.int .i64 1))else bif gd45 h s then
 bif (bif s.2 != 0 then bif c45 h s then true else !isI s.1 s.2 else false)then some (.one (.int .i64 1))else some (.one (.int .i64 0))else none)=some (.one (.int .i64 (subE h s))):=by
 rw[subE_nat h1 h2]
 obtain⟨b0,b1,b2⟩:=hasU h2
 unfold okS gd45 c45 mayN isI
 have e0:(s.2 != 0)= !(s.2.toNat ==0):=ne0_nat b0
 cases h3:okN h.toNat s.1.toNat with
 |false=>rfl
 |true=>
  rw[e0]
  cases h4:s.2.toNat ==0 with
  |true=>
   simp only[Bool.not_true,cond_false,boolBeq,cond_true,Bool.false_and,Bool.not_false,Bool.or_true,Bool.true_or,Bool.and_self]
  |false=>
   have h4:s.2.toNat ≠0:=by simpa using h4
   rw[one_le h4]
   have e1:(s.2==s.1)=(s.1.toNat ==s.2.toNat):=by
    exact eq_nat (hasU h1).1 b0
   rw[e1]
   simp only[Bool.not_true,Bool.not_false,cond_false,cond_true,Bool.true_or,Bool.false_or,Bool.true_and]
   unfold bne
   cases okN h.toNat s.2.toNat <;>cases s.1.toNat ==s.2.toNat <;>cases abv s.1.toNat s.2.toNat <;>rfl
def s345:Sp:= .fn [.v I,.v Subset] fun x=>(true,.one (.int .i64 (subE x.1 x.2)))
theorem g345:GoodS Tryz.prog N345 s345:=by
 refine good (.cons g374 (.cons g337 (.nil _))) H345 rfl (by kernel_rfl) noL [] (noLoops (by kernel_rfl)) [.v I,.v Subset] (by decide) [] _ fun x r hw e=> ?_
 obtain⟨h,s⟩:=x
 cases e
 exact(r345 h s).trans (check_run hw.2.1 hw.2.2)
def g36 (s:Subset.D) (v:Int):Bool:=decide (1≤v)|| !(boolBeq (isI s.1 v) true&&boolBeq (s.2==0) false)
theorem r336 (h i:Int) (s:Subset.D):run (orc [(N344,s344),(N345,s345),(N337,s337)]) noL [] F336 (encA [.v I,.v Subset,.v U] (h,s,i)) []=
 bif (bif subE h s != 0 then true else(leafI h i).2 != 0)then some (rb2 false 1)else bif decide (1≤(leafI h i).1)then bif g36 s (leafI h i).1 then
  some (rb2 (bif isI s.1 (leafI h i).1 then bif s.2==0 then true else !isI s.2 (leafI h i).1 else false) 0)else none else none:=by kernel_rfl
theorem hasr_run {h i:Int} {s:Subset.D} (h1:IntKind.u64.has s.1) (h2:IntKind.u64.has s.2) (hi:IntKind.u64.has i):(bif (bif subE h s != 0 then true else(leafI h i).2 != 0)then some (rb2 false 1)else bif decide (1≤(leafI h i).1)then bif g36 s (leafI h i).1 then
 some (rb2 (bif isI s.1 (leafI h i).1 then bif s.2==0 then true else !isI s.2 (leafI h i).1 else false) 0)else none else none)=some (rb2 (hasI h s i).1 (hasI h s i).2):=by
 obtain⟨c0,c1,c2⟩:=hasU hi
 rw[has_nat h1 h2 hi,subE_ne h1 h2,leaf_ne c0 c1]
 cases hk:okS h.toNat s.1.toNat s.2.toNat with
 |false=>rfl
 |true=>
  cases hl:leafOk h.toNat i.toNat with
  |false=>rfl
  |true=>
   rw[leaf_val c0 c1 hl]
   have hp:=leafN_ne (h:=h.toNat) (i:=i.toNat)
   unfold g36 isI hasN
   rw[decide_eq_true (show(1:Int)≤((leafN h.toNat i.toNat:Nat):Int) by omega),Int.toNat_natCast]
   obtain⟨b0,b1,b2⟩:=hasU h2
   have e0:(s.2==0)=(s.2.toNat ==0):=eq0_nat b0
   rw[e0]
   simp only[Bool.not_true,cond_false,cond_true,Bool.true_or,Bool.and_self]
   cases abv s.1.toNat (leafN h.toNat i.toNat)<;>cases s.2.toNat ==0<;>cases abv s.2.toNat (leafN h.toNat i.toNat)<;>rfl
theorem g336:GoodS Tryz.prog N336 s312:=by
 refine good (.cons g344 (.cons g345 (.cons g337 (.nil _)))) H336 rfl (by kernel_rfl) noL [] (noLoops (by kernel_rfl)) [.v I,.v Subset,.v U] (by decide) [] _ fun x r hw e=> ?_
 obtain⟨h,s,i⟩:=x
 cases e
 exact(r336 h i s).trans (hasr_run hw.2.1.1 hw.2.1.2 hw.2.2)
abbrev live424:List (Nat×Dir):=[(0,.keep),(4,.keep)]
def Λ399':Lam AV:=fun cur vs K=>
 match cur,vs with
 |0,[.one (.int .i64 h),.one (.int .i64 1)]=>stepK h fun n=>K (.exit 0) [.one (.int .i64 h),.one (.int .i64 n)]
 |_,_=>none
theorem le32 {h:Int} (hd:decide (h>32)=false):h≤32:=by have:=of_decide_eq_false hd;omega
theorem stepN_ne (h:Int):stepN h≠0:=by have:=stepN_pos h;omega
theorem loop424:LoopP tb (orc []) Λ399' ⟨19,0,[(0,live424)]⟩ (loopK F424 0):=by
 intro vs K out h
 have hcur:(loopK F424 0).1=0:=by kernel_rfl
 rw[hcur]at h⊢
 unfold Λ399' at h
 split at h
 ·rename_i x _
  refine⟨6, ?_⟩
  have e:loopN (aexec tb (orc []) Λ399' ⟨19,0,[(0,live424)]⟩ (loopK F424 0).2 0) 19 0 live424 K 6 [.one (.int .i64 x),.one (.int .i64 1)]=
   stepK x fun n=>K (.exit 0) [.one (.int .i64 x),.one (.int .i64 n)]:=by kernel_rfl
  exact e.trans h
 ·cases h
def stepV (h:Int):Int×Int:=bif (bif decide (h<1)then true else decide (h>32))then(0,1)else(stepN h,0)
theorem r424 (h:Int):run (orc []) Λ399' [(0,live424)] F424 (encA [.v I] h) []=bif (bif decide (h<1)then true else decide (h>32))then some (ri2 0 1)else stepK h fun n=>some (ri2 n 0):=by kernel_rfl
def s424:Sp:= .fn [.v I] fun h=>(true,ri2 (stepV h).1 (stepV h).2)
theorem g424:GoodS Tryz.prog N424 s424:=by
 refine good (.nil _) H424 rfl (by kernel_rfl) Λ399' [(0,live424)] (oneLoop (p0:=loopK F424 0) (by kernel_rfl) loop424) [.v I] (by decide) [] _ fun h r hw e=> ?_
 cases e
 rw[r424];unfold stepV
 cases hc:decide (h<1)with
 |true=>rfl
 |false=>
  cases hd:decide (h>32)with
  |true=>rfl
  |false=>
   show stepK h (fun n=>some (ri2 n 0))=some (ri2 (stepN h) 0)
   exact stepK_eq (le32 hd) _
theorem r403 (h d:Int):run (orc [(N424,s424)]) noL [] F403 (encA [.v I,.v I] (h,d)) []=bif !decide ((stepV h).1=0)then some (.one (.bool (bif d.tmod (stepV h).1==0 then true else d==h)))else none:=by kernel_rfl
def s403:Sp:= .fn [.v I,.v I] fun x=>(highB x.1,.one (.bool (spB x.2 (stepN x.1) x.1)))
theorem stepV_high {h:Int} (e:highB h=true):stepV h=(stepN h,0):=by
 have:=highB_iff.1 e
 unfold stepV
 rw[decide_eq_false (show ¬h<1 by omega),decide_eq_false (show ¬h>32 by omega)];rfl
theorem g403:GoodS Tryz.prog N403 s403:=by
 refine good (.cons g424 (.nil _)) H403 rfl (by kernel_rfl) noL [] (noLoops (by kernel_rfl)) [.v I,.v I] (by decide) [] _ fun x r hw e=> ?_
 obtain⟨h,d⟩:=x
 have e1:=congrArg Prod.fst e
 have e2:=congrArg Prod.snd e
 simp only at e1 e2
 refine(r403 h d).trans ?_
 rw[stepV_high e1,←e2,decide_eq_false (stepN_ne h)];rfl
abbrev live405:List (Nat×Dir):=[(0,.keep),(1,.keep)]
def vs405 (h d:Int):List AV:=[.one (.int .i64 h),.one (.int .i64 d)]
noncomputable abbrev lp405 (Λ:Lam AV) (K:AE→List AV→Option AV) (fuel:Nat) (vs:List AV):Option AV:=loopN (aexec tb (orc [(N403,s403)]) Λ ⟨14,0,[(0,live405)]⟩ (loopK F405 0).2 0) 14 0 live405 K fuel vs
theorem step405 (h d:Int) (Λ:Lam AV) (fuel:Nat) (K:AE→List AV→Option AV):lp405 Λ K (fuel+1) (vs405 h d)=
 bif highB h then bif !spB d (stepN h) h then lp405 Λ K fuel (vs405 h (IntKind.i64.wrap (d+1)))else K (.exit 0) (vs405 h d)else none:=by kernel_rfl
def nxOk (h d:Int):Bool:=decide (d<nxI d (stepN h) h)&&decide (nxI d (stepN h) h≤h)&&spB (nxI d (stepN h) h) (stepN h) h
theorem nx_all:((List.range 33).all fun h:Nat=>(List.range h).all fun d:Nat=>nxOk h d&&(List.range h).all fun y:Nat=> !(decide (d<y)&&decide ((y:Int)<nxI d (stepN h) h))|| !spB y (stepN h) h)=true:=by kernel_rfl
def Λ405:Lam AV:=fun cur vs K=>
 match cur,vs with
 |0,[.one (.int .i64 h),.one (.int .i64 d)]=>bif highB h&&decide (1≤d)&&decide (d≤h)then K (.exit 0) (vs405 h (nxI (d-1) (stepN h) h))else none
 |_,_=>none
theorem nx_spec {h d:Nat} (h2:h≤32) (hd:d<h):(d:Int)<nxI d (stepN h) h∧nxI d (stepN h) h≤h∧spB (nxI d (stepN h) h) (stepN h) h=true∧ ∀y:Nat,d<y→(y:Int)<nxI d (stepN h) h→spB y (stepN h) h=false:=by
 have h1:=List.all_eq_true.1 (List.all_eq_true.1 nx_all h (List.mem_range.2 (by omega))) d (List.mem_range.2 hd)
 simp only[Bool.and_eq_true,nxOk,decide_eq_true_eq]at h1
 obtain⟨⟨⟨a,b⟩,c⟩,e⟩:=h1
 refine⟨a,b,c,fun y hy hx=> ?_⟩
 have:=List.all_eq_true.1 e y (List.mem_range.2 (by omega))
 simp only[hy,hx,decide_true,Bool.and_self,Bool.not_true,Bool.false_or,Bool.not_eq_true']at this
 exact this
theorem loop405:LoopP tb (orc [(N403,s403)]) Λ405 ⟨14,0,[(0,live405)]⟩ (loopK F405 0):=by
 intro vs K out e
 have hcur:(loopK F405 0).1=0:=by kernel_rfl
 rw[hcur]at e⊢
 unfold Λ405 at e
 split at e
 ·rename_i h d _
  cases hc:(highB h&&decide (1≤d)&&decide (d≤h))with
  |false=>rw[hc]at e;cases e
  |true=>
   rw[hc]at e
   simp only[cond_true]at e
   simp only[Bool.and_eq_true,decide_eq_true_eq]at hc
   obtain⟨⟨hh,h1⟩,h2⟩:=hc
   have h3:=highB_iff.1 hh
   obtain⟨H,rfl⟩:=Int.eq_ofNat_of_zero_le (show 0≤h by omega)
   obtain⟨D,rfl⟩: ∃D:Nat,d=((D+1:Nat):Int):=⟨(d-1).toNat,by omega⟩
   rw[show((D+1:Nat):Int)-1=(D:Int) by omega]at e
   obtain⟨a,b,c,f⟩:=nx_spec (h:=H) (d:=D) (by omega) (by omega)
   generalize hX:nxI (D:Int) (stepN H) H=X at*
   obtain⟨X,rfl⟩:=Int.eq_ofNat_of_zero_le (show 0≤X by omega)
   refine upLoopI (α:=Unit) (n:=X) (F:=fun fuel _ i=>lp405 Λ405 K fuel (vs405 H i)) (G:=fun _ _=>K (.exit 0) (vs405 H X)) (Inv:=fun j _=>D<j) (fun fuel _=> ?_) (fun _ j hj hi=> ?_) (X-(D+1)) (D+1) () out (by omega) (by omega) e
   ·simp only[step405,hh,c,cond_true,Bool.not_true,cond_false]
   ·left
    refine⟨(),by omega,fun fuel=> ?_,rfl⟩
    simp only[step405,hh,f j hi (by omega),cond_true,Bool.not_false]
    rw[wrap64 (by omega) (by omega)];rfl
 ·cases e
theorem r405 (h d:Int):run (orc [(N403,s403)]) Λ405 [(0,live405)] F405 (encA [.v I,.v I] (h,d)) []=
 bif highB h&&decide (1≤IntKind.i64.wrap (d+1))&&decide (IntKind.i64.wrap (d+1)≤h)then some (.one (.int .i64 (nxI (IntKind.i64.wrap (d+1)-1) (stepN h) h)))else none:=by kernel_rfl
def s405:Sp:= .fn [.v I,.v I] fun x=>(highB x.1&&decide (0≤x.2)&&decide (x.2<x.1),.one (.int .i64 (nxI x.2 (stepN x.1) x.1)))
theorem next_run {h d:Int} (e:(highB h&&decide (0≤d)&&decide (d<h))=true):(bif highB h&&decide (1≤IntKind.i64.wrap (d+1))&&decide (IntKind.i64.wrap (d+1)≤h)then some (AV.one (.int .i64 (nxI (IntKind.i64.wrap (d+1)-1) (stepN h) h)))else none)=some (.one (.int .i64 (nxI d (stepN h) h))):=by
 simp only[Bool.and_eq_true,decide_eq_true_eq]at e
 obtain⟨⟨e1,e2⟩,e3⟩:=e
 have h3:=highB_iff.1 e1
 rw[wrap64 (by omega) (by omega),e1,decide_eq_true (show 1≤d+1 by omega),decide_eq_true (show d+1≤h by omega),show d+1-1=d by omega];rfl
theorem g405:GoodS Tryz.prog N405 s405:=by
 refine good (.cons g403 (.nil _)) H405 rfl (by kernel_rfl) Λ405 [(0,live405)] (oneLoop (p0:=loopK F405 0) (by kernel_rfl) loop405) [.v I,.v I] (by decide) [] _ fun x r hw e=> ?_
 obtain⟨h,d⟩:=x
 have e1:=congrArg Prod.fst e
 have e2:=congrArg Prod.snd e
 simp only at e1 e2
 rw[←e2]
 exact(r405 h d).trans (next_run e1)
def Γ372:Orc:=orc [(N345,s345),(N404,s404),(N403,s403),(N405,s405)]
theorem sp_lt {i n h:Int} (hs:spB i n h=false) (hi:i≤h):i<h:=by
 rcases Int.lt_or_eq_of_le hi with h1|rfl
 ·exact h1
 ·unfold spB at hs
  cases hc:i.tmod n==0 with
  |true=>rw[hc]at hs;cases hs
  |false=>rw[hc]at hs;simp at hs
def us2 (h:Int) (s:Subset.D):Option AV:=
 bif decide (1≤s.1)then bif highB h then bif spB (depI s.1) (stepN h) h then some (rb2 true 0)else
  bif decide (1≤s.1)then bif highB h&&decide (0≤depI s.1)&&decide (depI s.1<h)then bif decide (1≤s.2)then some (rb2 (decide (nxI (depI s.1) (stepN h) h≥depI s.2)) 0)else none else none else none
 else none else none
theorem r372 (h:Int) (s:Subset.D):run Γ372 noL [] F372 (encA [.v I,.v Subset] (h,s)) []=bif subE h s != 0 then some (rb2 false 1)else bif s.2==0 then some (rb2 (s.1==1) 0)else us2 h s:=by kernel_rfl
theorem use_ok {h:Int} {s:Subset.D} (h1:IntKind.u64.has s.1) (h2:IntKind.u64.has s.2) (hk:okS h.toNat s.1.toNat s.2.toNat =true) (hj:(s.2==0)=false):
 highB h=true∧1≤s.1∧1≤s.2∧0≤depI s.1∧depI s.1≤h∧useI h s=(bif spB (depI s.1) (stepN h) h then true else decide (depI s.2≤nxI (depI s.1) (stepN h) h),0):=by
 obtain⟨a0,a1,a2⟩:=hasU h1
 obtain⟨b0,b1,b2⟩:=hasU h2
 obtain⟨k1,k2⟩:=okS_iff.1 hk
 have hj':s.2.toNat ≠0:=by rw[eq0_nat b0]at hj;simpa using hj
 obtain⟨j1,_,_⟩:=k2.resolve_left hj'
 have c1:(chkI h s.1 != 0)=false:=by rw[chk_ne a0,k1];rfl
 have c2:(chkI h s.2 != 0)=false:=by rw[chk_ne b0,j1];rfl
 obtain⟨p1,p2,p3⟩:=chk_zero c1
 obtain⟨_,q2,_⟩:=chk_zero c2
 have c0:(chkI h 1 != 0)=false:=by
  obtain⟨o1,o2,_⟩:=okN_iff.1 k1
  rw[chk_ne (by decide)]
  show(!okN h.toNat 1)=false
  rw[okN_one,decide_eq_true o1,decide_eq_true o2];rfl
 have e0:stepI h=(stepN h,0):=by unfold stepI;rw[c0];rfl
 have e1:depthI h s.1=(depI s.1,0):=by unfold depthI;rw[c1];rfl
 have e2:depthI h s.2=(depI s.2,0):=by unfold depthI;rw[c2];rfl
 refine⟨p1,p2,q2,by rw[dep_nat p2];exact Int.natCast_nonneg _,p3, ?_⟩
 have eB:depB h s=true:=by unfold depB;rw[e1];unfold bne;rw[hj];rfl
 unfold useI useB depJ depE
 rw[subE_ne h1 h2,hk,hj,eB,e0,e1,e2]
 rfl
theorem use_run {h:Int} {s:Subset.D} (h1:IntKind.u64.has s.1) (h2:IntKind.u64.has s.2):(bif subE h s != 0 then some (rb2 false 1)else bif s.2==0 then some (rb2 (s.1==1) 0)else us2 h s)=some (rb2 (useI h s).1 (useI h s).2):=by
 cases hk:okS h.toNat s.1.toNat s.2.toNat with
 |false=>
  have e:subE h s=1:=by rw[subE_nat h1 h2,hk];rfl
  unfold useI;rw[e];rfl
 |true=>
  have e:(subE h s != 0)=false:=by rw[subE_ne h1 h2,hk];rfl
  cases hj:s.2==0 with
  |true=>unfold useI;rw[e,hj];rfl
  |false=>
   obtain⟨p1,p2,p3,p4,p5,p6⟩:=use_ok h1 h2 hk hj
   rw[e,p6]
   unfold us2
   rw[decide_eq_true p2,p1,decide_eq_true p3,decide_eq_true p4]
   cases hs:spB (depI s.1) (stepN h) h with
   |true=>rfl
   |false=>
    have hlt:depI s.1<h:=sp_lt hs p5
    rw[decide_eq_true hlt];rfl
theorem g372:GoodS Tryz.prog N372 s327:=by
 refine good (.cons g345 (.cons g404 (.cons g403 (.cons g405 (.nil _))))) H372 rfl (by kernel_rfl) noL [] (noLoops (by kernel_rfl)) [.v I,.v Subset] (by decide) [] _ fun x r hw e=> ?_
 obtain⟨h,s⟩:=x
 cases e
 exact(r372 h s).trans (use_run hw.2.1 hw.2.2)
def schB (h k:Int):Bool:=bif bif mayN h 1 then decide (k≥1)else false then decide (k≤3)else false
theorem r373 (h k:Int):run (orc [(N374,s374)]) noL [] F373 (encA [.v I,.v I] (h,k)) []=some (.one (.bool (schB h k))):=by kernel_rfl
def s373:Sp:= .fn [.v I,.v I] fun x=>(true,.one (.bool (schB x.1 x.2)))
theorem g373:GoodS Tryz.prog N373 s373:=by
 refine good (.cons g374 (.nil _)) H373 rfl (by kernel_rfl) noL [] (noLoops (by kernel_rfl)) [.v I,.v I] (by decide) [] _ fun x r hw e=> ?_
 obtain⟨h,k⟩:=x
 cases e
 exact r373 h k
theorem sch_ne (h k:Int):(schE h k != 0)= !schB h k:=by
 unfold schE schB
 have:mayN h 1=okN h.toNat 1:=rfl
 rw[this]
 by_cases hk:1≤k∧k≤3
 ·rw[decide_eq_false (show ¬k<1 by omega),decide_eq_false (show ¬k>3 by omega),decide_eq_true (show k≥1 by omega),decide_eq_true (show k≤3 by omega)]
  simp only[cond_false]
  rw[chk_ne (by decide)]
  show(!okN h.toNat 1)=_
  cases okN h.toNat 1<;>rfl
 ·have e1:(bif decide (k<1)then true else decide (k>3))=true:=by
   cases e:decide (k<1)with
   |true=>rfl
   |false=>have:=of_decide_eq_false e;exact decide_eq_true (by omega)
  rw[e1]
  have e2:(bif bif okN h.toNat 1 then decide (k≥1)else false then decide (k≤3)else false)=false:=by
   cases okN h.toNat 1 with
   |false=>rfl
   |true=>
    cases e:decide (k≥1)with
    |false=>rfl
    |true=>have:=of_decide_eq_true e;exact decide_eq_false (by omega)
  rw[e2];rfl
def mayB3' (h k:Int) (s:Subset.D):Bool:=bif !schB h k then true else subE h s != 0
theorem r335 (h k:Int) (s:Subset.D):run (orc [(N373,s373),(N345,s345),(N372,s327)]) noL [] F335 (encA [.v I,.v I,.v Subset] (h,k,s)) []=
 bif mayB3' h k s then some (rb2 false 1)else bif k==1 then some (rb2 (s.2==0) 0)else bif k==2 then some (rb2 (bif s.2 != 0 then true else s.1==1) 0)else some (rb2 (useI h s).1 (useI h s).2):=by kernel_rfl
theorem g335:GoodS Tryz.prog N335 s318:=by
 refine good (.cons g373 (.cons g345 (.cons g372 (.nil _)))) H335 rfl (by kernel_rfl) noL [] (noLoops (by kernel_rfl)) [.v I,.v I,.v Subset] (by decide) [] _ fun x r hw e=> ?_
 obtain⟨h,k,s⟩:=x
 cases e
 refine(r335 h k s).trans ?_
 show _=some (rb2 (mayI h k s).1 (mayI h k s).2)
 have eb:mayB3' h k s=mayB3 h k s:=by unfold mayB3' mayB3;rw[sch_ne]
 unfold mayI
 rw[eb]
 cases mayB3 h k s with
 |true=>rfl
 |false=>
  cases k==1 with
  |true=>rfl
  |false=>cases k==2<;>rfl
abbrev live338:List (Nat×Dir):=[(1,.keep),(8,.arr I),(26,.keep),(27,.keep),(28,.keep)]
def vs338 (a:Int) (l out:List Int) (n i:Int):List AV:=[.one (.int .u64 a),.arr true I out,.one (.sl true U none l),.one (.int .i64 n),.one (.int .i64 i)]
def Γ338:Orc:=orc [(N374,s374),(N337,s337),(N370,s370)]
noncomputable abbrev lp338 (Λ:Lam AV) (K:AE→List AV→Option AV) (fuel:Nat) (vs:List AV):Option AV:=loopN (aexec tb Γ338 Λ ⟨48,0,[(0,live338)]⟩ (loopK F338 0).2 0) 48 0 live338 K fuel vs
def bitO (x:Int):Int:=IntKind.i64.wrap (x.tmod 2)
def selB (a x:Int):Bool:=bif decide (x>a)then isI a x else false
def accL (a:Int):List Int→List Int→List Int
 |[],out=>out
 |x::r,out=>accL a r (bif selB a x then out++[bitO x]else out)
theorem step338 (a:Int) (l out:List Int) (n i:Int) (Λ:Lam AV) (fuel:Nat) (K:AE→List AV→Option AV):lp338 Λ K (fuel+1) (vs338 a l out n i)=
 bif decide (i<n)then bif inB i l.length then bif decide (1≤iAt l i)|| !boolBeq (decide (iAt l i>a)) true then
  bif selB a (iAt l i)then bif decide ((out.length+1)*8≤140737488355328)then lp338 Λ K fuel (vs338 a l (out++[bitO (iAt l i)]) n (IntKind.i64.wrap (i+1)))else none
  else lp338 Λ K fuel (vs338 a l out n (IntKind.i64.wrap (i+1)))
 else none else none else K (.exit 0) (vs338 a l out n i):=by kernel_rfl
def Λ338:Lam AV:=fun cur vs K=>
 match cur,vs with
 |0,[.one (.int .u64 a),.arr true (.int .i64) [],.one (.sl true (.int .u64) none l),.one (.int .i64 n),.one (.int .i64 0)]=>
  bif decide (n=l.length)&&decide (n≤64)&&decide (0≤a)then K (.exit 0) (vs338 a l (accL a l []) n n)else none
 |_,_=>none
theorem sel_guard {a x:Int} (h:0≤a):(decide (1≤x)|| !boolBeq (decide (x>a)) true)=true:=by
 cases e:decide (x>a)with
 |false=>cases decide (1≤x)<;>rfl
 |true=>have:=of_decide_eq_true e;rw[decide_eq_true (show 1≤x by omega)];rfl
theorem iAt_drop {l:List Int} {j:Nat} (h:j<l.length):l.drop j=iAt l j::l.drop (j+1):=by
 rw[List.drop_eq_getElem_cons h]
 simp [iAt,h]
theorem len8 {n:Nat} (h:n≤5000):decide ((n+1)*8≤140737488355328)=true:=decide_eq_true (by omega)
theorem loop338:LoopP tb Γ338 Λ338 ⟨48,0,[(0,live338)]⟩ (loopK F338 0):=by
 intro vs K out e
 have hcur:(loopK F338 0).1=0:=by kernel_rfl
 rw[hcur]at e⊢
 unfold Λ338 at e
 split at e
 ·rename_i a l n _
  cases hc:(decide (n=l.length)&&decide (n≤64)&&decide (0≤a))with
  |false=>rw[hc]at e;cases e
  |true=>
   rw[hc]at e
   simp only[cond_true]at e
   simp only[Bool.and_eq_true,decide_eq_true_eq]at hc
   obtain⟨⟨rfl,hn⟩,ha⟩:=hc
   refine upLoopI (α:=List Int) (n:=l.length) (F:=fun fuel o i=>lp338 Λ338 K fuel (vs338 a l o l.length i))
    (G:=fun j o=>K (.exit 0) (vs338 a l (accL a (l.drop j) o) l.length l.length)) (Inv:=fun j o=>o.length≤j) (fun fuel o=> ?_) (fun o j hj hi=> ?_) l.length 0 [] out (by omega) (Nat.le_refl 0) e
   ·simp only[step338,nlt_dec,cond_false,List.drop_length,accL]
   ·left
    refine⟨bif selB a (iAt l j)then o++[bitO (iAt l j)]else o,by cases selB a (iAt l j)<;>simp<;>omega,fun fuel=> ?_, ?_⟩
    ·simp only[step338,lt_dec hj,inB_lt hj,cond_true,sel_guard ha,len8 (show o.length≤5000 by omega)]
     rw[wrap64 (n:=(j:Int)+1) (by omega) (by omega)]
     cases selB a (iAt l j)<;>rfl
    ·rw[iAt_drop hj,accL]
 ·cases e
theorem r338 (h a b:Int):run Γ338 Λ338 [(0,live338)] F338 (encA [.v I,.v U,.v U] (h,a,b)) [.sl true I]=
 bif (bif !mayN h a then true else !mayN h b)then some (rli [] 1)else bif decide (1≤b)then bif !isI a b then some (rli [] 4)else bif decide (1≤b)then
  bif decide (((chainN b.toNat).length:Int)=(chainN b.toNat).length)&&decide (((chainN b.toNat).length:Int)≤64)&&decide (0≤a)then some (rli (accL a (chainN b.toNat) []) 0)else none else none else none:=by kernel_rfl
abbrev lvB:List (Nat×Dir):=[(0,.keep),(1,.keep),(10,.keep),(11,.arr Subset)]
abbrev live334:List (Nat×List (Nat×Dir)):=[(0,lvB++[(43,.keep),(44,.keep),(45,.keep)]),(2,lvB++[(60,.keep),(61,.keep),(62,.keep)]),(4,lvB++[(14,.keep),(15,.keep),(60,.keep),(61,.keep),(62,.keep),(70,.keep),(71,.keep),(72,.keep)])]
def Γ334:Orc:=orc [(N344,s344),(N370,s370),(N371,s371),(N372,s327)]
def vsB (h k:Int) (l:List Int) (out:List Subset.D):List AV:=[.one (.int .i64 h),.one (.int .i64 k),.one (.sl true U none l),.arr true Subset out]
def inL (h k top:Int):List Int→List Subset.D→List Subset.D
 |[],out=>out
 |x::r,out=>inL h k top r (bif (bif k==2 then true else(useI h (top,(othI h x).1)).1)then out++[(top,(othI h x).1)]else out)
def outL (h k:Int):List Int→List Subset.D→List Subset.D
 |[],out=>out
 |x::r,out=>outL h k r (inL h k x r out)
def wL (l:List Int):List Subset.D:=l.map fun x=>(x,0)
def vsW (h k:Int) (l l':List Int) (out:List Subset.D) (n i:Int):List AV:=vsB h k l out++[.one (.sl true U none l'),.one (.int .i64 n),.one (.int .i64 i)]
def vsI (h k:Int) (l:List Int) (out:List Subset.D) (t top:Int) (l2:List Int) (n i:Int) (l':List Int) (n' i':Int):List AV:=vsB h k l out++[.one (.int .i64 t),.one (.int .u64 top),.one (.sl true U none l2),.one (.int .i64 n),.one (.int .i64 i),.one (.sl true U none l'),.one (.int .i64 n'),.one (.int .i64 i')]
def cI (l':List Int) (n':Int) (out:List Subset.D):Bool:=decide (n'=l'.length)&&decide (n'≤64)&&decide (out.length≤4500)
def Λ334:Lam AV:=fun cur vs K=>
 match cur,vs with
 |0,[.one (.int .i64 h),.one (.int .i64 k),.one (.sl true (.int .u64) none l),.arr true (.pair (.int .u64) (.int .u64)) [],.one (.sl true (.int .u64) none l'),.one (.int .i64 n),.one (.int .i64 0)]=>
  bif decide (n=l'.length)&&decide (n≤64)then K (.exit 0) (vsW h k l l' (wL l') n n)else none
 |2,[.one (.int .i64 h),.one (.int .i64 k),.one (.sl true (.int .u64) none l),.arr true (.pair (.int .u64) (.int .u64)) out,.one (.sl true (.int .u64) none l'),.one (.int .i64 n),.one (.int .i64 0)]=>
  bif decide (n=l'.length)&&decide (n≤64)&&decide (l'=l)&&decide (out.length≤1)then K (.exit 2) (vsW h k l l' (outL h k l' out) n n)else none
 |4,[.one (.int .i64 h),.one (.int .i64 k),.one (.sl true (.int .u64) none l),.arr true (.pair (.int .u64) (.int .u64)) out,.one (.int .i64 t),.one (.int .u64 top),.one (.sl true (.int .u64) none l2),.one (.int .i64 n),.one (.int .i64 i),.one (.sl true (.int .u64) none l'),.one (.int .i64 n'),.one (.int .i64 0)]=>
  bif cI l' n' out then K (.exit 4) (vsI h k l (inL h k top l' out) t top l2 n i l' n' n')else none
 |_,_=>none
noncomputable abbrev lq0 (K:AE→List AV→Option AV) (fuel:Nat) (vs:List AV):Option AV:=loopN (aexec tb Γ334 Λ334 ⟨103,0,live334⟩ (loopK F334 0).2 0) 103 0 (lvB++[(43,.keep),(44,.keep),(45,.keep)]) K fuel vs
noncomputable abbrev lq2 (K:AE→List AV→Option AV) (fuel:Nat) (vs:List AV):Option AV:=loopN (aexec tb Γ334 Λ334 ⟨103,0,live334⟩ (loopK F334 1).2 2) 103 0 (lvB++[(60,.keep),(61,.keep),(62,.keep)]) K fuel vs
noncomputable abbrev lq4 (K:AE→List AV→Option AV) (fuel:Nat) (vs:List AV):Option AV:=loopN (aexec tb Γ334 Λ334 ⟨103,0,live334⟩ (loopK F334 2).2 4) 103 0 (lvB++[(14,.keep),(15,.keep),(60,.keep),(61,.keep),(62,.keep),(70,.keep),(71,.keep),(72,.keep)]) K fuel vs
theorem stq0 (h k:Int) (l l':List Int) (out:List Subset.D) (n i:Int) (fuel:Nat) (K:AE→List AV→Option AV):lq0 K (fuel+1) (vsW h k l l' out n i)=
 bif decide (i<n)then bif inB i l'.length then bif decide ((out.length+1)*16≤140737488355328)then lq0 K fuel (vsW h k l l' (out++[(iAt l' i,0)]) n (IntKind.i64.wrap (i+1)))else none else none else K (.exit 0) (vsW h k l l' out n i):=by kernel_rfl
theorem stq4 (h k:Int) (l:List Int) (out:List Subset.D) (t top:Int) (l2:List Int) (n i:Int) (l':List Int) (n' i':Int) (fuel:Nat) (K:AE→List AV→Option AV):lq4 K (fuel+1) (vsI h k l out t top l2 n i l' n' i')=
 bif decide (i'<n')then bif inB i' l'.length then
  bif (bif k==2 then true else(useI h (top,(othI h (iAt l' i')).1)).1)then bif decide ((out.length+1)*16≤140737488355328)then lq4 K fuel (vsI h k l (out++[(top,(othI h (iAt l' i')).1)]) t top l2 n i l' n' (IntKind.i64.wrap (i'+1)))else none
  else lq4 K fuel (vsI h k l out t top l2 n i l' n' (IntKind.i64.wrap (i'+1)))
 else none else K (.exit 4) (vsI h k l out t top l2 n i l' n' i'):=by kernel_rfl
theorem stq2 (h k:Int) (l l':List Int) (out:List Subset.D) (n i:Int) (fuel:Nat) (K:AE→List AV→Option AV):lq2 K (fuel+1) (vsW h k l l' out n i)=
 bif decide (i<n)then bif inB i l'.length then bif decide (0≤IntKind.i64.wrap (i+1))&&decide (IntKind.i64.wrap (i+1)≤(l.length:Int))then
  bif cI (l.drop (IntKind.i64.wrap (i+1)).toNat) ((l.drop (IntKind.i64.wrap (i+1)).toNat).length:Int) out then
   lq2 K fuel (vsW h k l l' (inL h k (iAt l' i) (l.drop (IntKind.i64.wrap (i+1)).toNat) out) n (IntKind.i64.wrap (i+1)))else none else none else none
 else K (.exit 2) (vsW h k l l' out n i):=by kernel_rfl
theorem inL_len (h k top:Int): ∀(l:List Int) (out:List Subset.D),(inL h k top l out).length≤out.length+l.length:=by
 intro l
 induction l with
 |nil=>intro out;exact Nat.le_refl _
 |cons x l ih=>
  intro out
  refine Nat.le_trans (ih _) ?_
  cases (bif k==2 then true else(useI h (top,(othI h x).1)).1)<;>simp<;>omega
theorem loop334a:LoopP tb Γ334 Λ334 ⟨103,0,live334⟩ (loopK F334 0):=by
 intro vs K out e
 have hcur:(loopK F334 0).1=0:=by kernel_rfl
 rw[hcur]at e⊢
 unfold Λ334 at e
 split at e
 ·rename_i h k l l' n _
  cases hc:(decide (n=l'.length)&&decide (n≤64))with
  |false=>rw[hc]at e;cases e
  |true=>
   rw[hc]at e
   simp only[cond_true]at e
   simp only[Bool.and_eq_true,decide_eq_true_eq]at hc
   obtain⟨rfl,hn⟩:=hc
   refine upLoopI (α:=List Subset.D) (n:=l'.length) (F:=fun fuel o i=>lq0 K fuel (vsW h k l l' o l'.length i))
    (G:=fun j o=>K (.exit 0) (vsW h k l l' (o++wL (l'.drop j)) l'.length l'.length)) (Inv:=fun j o=>o.length≤j) (fun fuel o=> ?_) (fun o j hj hi=> ?_) l'.length 0 [] out (by omega) (Nat.le_refl 0) e
   ·simp only[stq0,nlt_dec,cond_false,List.drop_length,wL,List.map_nil,List.append_nil]
   ·left
    refine⟨o++[(iAt l' j,0)],by simp;omega,fun fuel=> ?_, ?_⟩
    ·simp only[stq0,lt_dec hj,inB_lt hj,cond_true,len_ok (show o.length≤5000 by omega)]
     rw[wrap64 (n:=(j:Int)+1) (by omega) (by omega)];rfl
    ·rw[iAt_drop hj];simp only[wL,List.map_cons,List.append_assoc,List.singleton_append]
 ·rename_i hh;cases hh
 ·rename_i hh;cases hh
 ·cases e
theorem loop334c:LoopP tb Γ334 Λ334 ⟨103,0,live334⟩ (loopK F334 2):=by
 intro vs K out e
 have hcur:(loopK F334 2).1=4:=by kernel_rfl
 rw[hcur]at e⊢
 unfold Λ334 at e
 split at e
 ·rename_i hh;cases hh
 ·rename_i hh;cases hh
 ·rename_i h k l o0 t top l2 n i l' n' _
  cases hc:cI l' n' o0 with
  |false=>rw[hc]at e;cases e
  |true=>
   rw[hc]at e
   simp only[cond_true]at e
   simp only[cI,Bool.and_eq_true,decide_eq_true_eq]at hc
   obtain⟨⟨rfl,hn⟩,ho⟩:=hc
   refine upLoopI (α:=List Subset.D) (n:=l'.length) (F:=fun fuel o i'=>lq4 K fuel (vsI h k l o t top l2 n i l' l'.length i'))
    (G:=fun j o=>K (.exit 4) (vsI h k l (inL h k top (l'.drop j) o) t top l2 n i l' l'.length l'.length)) (Inv:=fun j o=>o.length≤4500+j) (fun fuel o=> ?_) (fun o j hj hi=> ?_) l'.length 0 o0 out (by omega) (by omega) e
   ·simp only[stq4,nlt_dec,cond_false,List.drop_length,inL]
   ·left
    refine⟨bif (bif k==2 then true else(useI h (top,(othI h (iAt l' j)).1)).1)then o++[(top,(othI h (iAt l' j)).1)]else o,by cases (bif k==2 then true else(useI h (top,(othI h (iAt l' j)).1)).1)<;>simp<;>omega,fun fuel=> ?_, ?_⟩
    ·simp only[stq4,lt_dec hj,inB_lt hj,cond_true,len_ok (show o.length≤5000 by omega)]
     rw[wrap64 (n:=(j:Int)+1) (by omega) (by omega)]
     cases (bif k==2 then true else(useI h (top,(othI h (iAt l' j)).1)).1)<;>rfl
    ·rw[iAt_drop hj,inL]
 ·cases e
theorem loop334b:LoopP tb Γ334 Λ334 ⟨103,0,live334⟩ (loopK F334 1):=by
 intro vs K out e
 have hcur:(loopK F334 1).1=2:=by kernel_rfl
 rw[hcur]at e⊢
 unfold Λ334 at e
 split at e
 ·rename_i hh;cases hh
 ·rename_i h k l o0 l' n _
  cases hc:(decide (n=l'.length)&&decide (n≤64)&&decide (l'=l)&&decide (o0.length≤1))with
  |false=>rw[hc]at e;cases e
  |true=>
   rw[hc]at e
   simp only[cond_true]at e
   simp only[Bool.and_eq_true,decide_eq_true_eq]at hc
   obtain⟨⟨⟨rfl,hn⟩,rfl⟩,ho⟩:=hc
   refine upLoopI (α:=List Subset.D) (n:=l'.length) (F:=fun fuel o i=>lq2 K fuel (vsW h k l' l' o l'.length i))
    (G:=fun j o=>K (.exit 2) (vsW h k l' l' (outL h k (l'.drop j) o) l'.length l'.length)) (Inv:=fun j o=>o.length≤1+64*j) (fun fuel o=> ?_) (fun o j hj hi=> ?_) l'.length 0 o0 out (by omega) (by omega) e
   ·simp only[stq2,nlt_dec,cond_false,List.drop_length,outL]
   ·left
    refine⟨inL h k (iAt l' j) (l'.drop (j+1)) o,Nat.le_trans (inL_len _ _ _ _ _) (by rw[List.length_drop];omega),fun fuel=> ?_, ?_⟩
    ·have e1:IntKind.i64.wrap ((j:Int)+1)=((j+1:Nat):Int):=wrap64 (n:=(j:Int)+1) (by omega) (by omega)
     have hc4:cI (l'.drop (j+1)) ((l'.drop (j+1)).length:Int) o=true:=by
      simp only[cI,Bool.and_eq_true,decide_eq_true_eq,List.length_drop]
      refine⟨⟨trivial, ?_⟩, ?_⟩<;>omega
     simp only[stq2,lt_dec hj,inB_lt hj,cond_true,e1,Int.toNat_natCast,hc4]
     rw[decide_eq_true (show(0:Int)≤((j+1:Nat):Int) by omega),decide_eq_true (show((j+1:Nat):Int)≤(l'.length:Int) by omega)];rfl
    ·rw[iAt_drop hj,outL]
 ·rename_i hh;cases hh
 ·cases e
def refP (h k i:Int):Option AV:=
 bif (bif bif (leafI h i).2 != 0 then true else decide (k<1)then true else decide (k>3))then some (rls [] 1)else bif decide (1≤(leafI h i).1)then
  bif k==1 then bif decide (((chainN (leafI h i).1.toNat).length:Int)=(chainN (leafI h i).1.toNat).length)&&decide (((chainN (leafI h i).1.toNat).length:Int)≤64)then some (rls (wL (chainN (leafI h i).1.toNat)) 0)else none
  else bif decide (((chainN (leafI h i).1.toNat).length:Int)=(chainN (leafI h i).1.toNat).length)&&decide (((chainN (leafI h i).1.toNat).length:Int)≤64)&&decide (chainN (leafI h i).1.toNat =chainN (leafI h i).1.toNat)&&decide (([(1,0)]:List Subset.D).length≤1)then
   some (rls (outL h k (chainN (leafI h i).1.toNat) [(1,0)]) 0)else none else none
theorem r334 (h k i:Int):run Γ334 Λ334 live334 F334 (encA [.v I,.v I,.v U] (h,k,i)) [.sl true Subset]=refP h k i:=by kernel_rfl
theorem chain_at {L d:Nat} (h:d≤L.log2):iAt (chainN L) (d:Int)=((L/2^(L.log2-d):Nat):Int):=by
 unfold iAt chainN
 rw[Int.toNat_natCast,List.getD_eq_getElem?_getD,List.getElem?_map,List.getElem?_range (by omega)]
 rfl
theorem LeafAt.shr {H x d:Nat} (a:LeafAt H x) (hd:d≤H):shrI ((leafN H x:Nat):Int) ((H:Int)-(d:Int))=iAt (chainN (leafN H x)) (d:Int):=by
 rw[chain_at (by rw[a.log];exact hd),a.log,show(H:Int)-(d:Int)=((H-d:Nat):Int) by omega,shr_nat (by omega) (by have:=a.h2;omega),Int.toNat_natCast,Int.toNat_natCast]
theorem LeafAt.len {H x:Nat} (a:LeafAt H x):(chainN (leafN H x)).length=H+1:=by rw[chainN_len,a.log]
theorem LeafAt.whole {H x:Nat} (a:LeafAt H x):wG (H:Int) ((leafN H x:Nat):Int) (H+1) 0 []=wL (chainN (leafN H x)):=by
 rw[wG_eq,List.nil_append]
 unfold wL chainN
 rw[a.log,List.map_map]
 apply List.map_congr_left
 intro d hd
 have hd:=List.mem_range.1 hd
 show(shrI _ ((H:Int)-((0+d:Nat):Int)),(0:Int))=(((leafN H x/2^(H-d):Nat):Int),0)
 rw[Nat.zero_add,a.shr (by omega),chain_at (by rw[a.log];omega),a.log]
theorem LeafAt.pr {H x t d:Nat} (a:LeafAt H x) (ht:t<d) (hd:d≤H) (k:Int) (hk:k=2∨k=3):
 prP (H:Int) ((leafN H x:Nat):Int) t d=(iAt (chainN (leafN H x)) (t:Int),(othI (H:Int) (iAt (chainN (leafN H x)) (d:Int))).1)∧
 keepB (H:Int) k (prP (H:Int) ((leafN H x:Nat):Int) t d)=(bif k==2 then true else(useI (H:Int) (prP (H:Int) ((leafN H x:Nat):Int) t d)).1):=by
 have hl:=a.log
 have hb:=a.lt
 have hne:=leafN_ne (h:=H) (i:=x)
 have ec: ∀ {y:Nat},y≤H→iAt (chainN (leafN H x)) (y:Int)=((leafN H x/2^(H-y):Nat):Int):=fun {y} hy=>by rw[chain_at (by rw[hl];exact hy),hl]
 have ep:=prP_nat a.h2 a.hx ht hd
 obtain⟨q1,q2⟩:=pair_has a.h1 a.h2 a.hx ht hd
 have b1:leafN H x/2^(H-t)<2^64:=Nat.lt_of_le_of_lt (Nat.div_le_self _ _) (by omega)
 have b0:leafN H x/2^(H-d)<2^64:=Nat.lt_of_le_of_lt (Nat.div_le_self _ _) (by omega)
 have b2:(leafN H x/2^(H-d))^^^1<2^64:=Nat.xor_lt_two_pow b0 (by decide)
 have nd:leafN H x/2^(H-d)≠0:=div_pos hne (by rw[hl];omega)
 have ld:(leafN H x/2^(H-d)).log2=d:=by rw[log2_div hne (by rw[hl];omega),hl];omega
 have nd2:2≤leafN H x/2^(H-d):=by
  have:=log2_le nd
  rw[ld]at this
  have:2^1≤2^d:=Nat.pow_le_pow_right (by decide) (by omega)
  omega
 have hz1:(((leafN H x/2^(H-d):Nat):Int)==1)=false:=beq_eq_false_iff_ne.2 (fun e=>absurd (show leafN H x/2^(H-d)=1 by exact_mod_cast e) (by omega))
 have eo:(othI (H:Int) (((leafN H x/2^(H-d):Nat):Int))).1=(((leafN H x/2^(H-d))^^^1:Nat):Int):=by
  unfold othI mayN
  rw[Int.toNat_natCast,Int.toNat_natCast,okN_iff.2 ⟨a.h1,a.h2,by omega,(okN_log nd).2 (by omega)⟩,hz1]
  simp only[Bool.not_true,cond_false]
  exact xor_nat b0
 refine⟨by rw[ep,ec (show t≤H by omega),ec hd,eo], ?_⟩
 rw[ep]
 have nx:(leafN H x/2^(H-d))^^^1≠0:=by
  intro h0
  have:=xor_one_log2 nd2
  rw[h0,Nat.log2_zero,ld]at this
  omega
 have hz:((((leafN H x/2^(H-d))^^^1:Nat):Int)==0)=false:=beq_eq_false_iff_ne.2 (fun e=>nx (by exact_mod_cast e))
 obtain⟨_,_,_,_,_,u6⟩:=use_ok (h:=(H:Int)) (s:=(((leafN H x/2^(H-t):Nat):Int),(((leafN H x/2^(H-d))^^^1:Nat):Int))) (U64 b1) (U64 b2) (by simp only[Int.toNat_natCast];exact q1) hz
 unfold keepB
 rw[u6]
 rcases hk with rfl|rfl
 ·rfl
 ·cases (bif spB (depI ((leafN H x/2^(H-t):Nat):Int)) (stepN (H:Int)) (H:Int)then true else decide (depI (((leafN H x/2^(H-d))^^^1:Nat):Int)≤nxI (depI ((leafN H x/2^(H-t):Nat):Int)) (stepN (H:Int)) (H:Int)))<;>rfl
theorem LeafAt.inner {H x t:Nat} (a:LeafAt H x) (k:Int) (hk:k=2∨k=3): ∀(m d:Nat) (out:List (Int×Int)),t<d→d+m=H+1→
 inG (H:Int) k ((leafN H x:Nat):Int) t m d out=inL (H:Int) k (iAt (chainN (leafN H x)) (t:Int)) ((chainN (leafN H x)).drop d) out:=by
 intro m
 induction m with
 |zero=>intro d out _ hd;rw[List.drop_of_length_le (by rw[a.len];omega)];rfl
 |succ m ih=>
  intro d out ht hd
  obtain⟨e1,e2⟩:=a.pr ht (show d≤H by omega) k hk
  rw[inG,ih (d+1) _ (by omega) (by omega),iAt_drop (j:=d) (by rw[a.len];omega),inL,e2,←e1]
theorem LeafAt.outer {H x:Nat} (a:LeafAt H x) (k:Int) (hk:k=2∨k=3): ∀(m t:Nat) (out:List (Int×Int)),t+m=H→
 outG (H:Int) k ((leafN H x:Nat):Int) m t out=outL (H:Int) k ((chainN (leafN H x)).drop t) out:=by
 intro m
 induction m with
 |zero=>
  intro t out ht
  rw[iAt_drop (j:=t) (by rw[a.len];omega),List.drop_of_length_le (by rw[a.len];omega)];rfl
 |succ m ih=>
  intro t out ht
  rw[outG,ih (t+1) _ (by omega),iAt_drop (j:=t) (by rw[a.len];omega),outL,Int.toNat_natCast,a.inner k hk (H-t) (t+1) out (by omega) (by omega)]
theorem many_zero {h k:Int} (h1:highB h=true) (hk:1≤k∧k≤3):(manyV h k).2=0:=by
 have c0:(chkI h 1 != 0)=false:=by
  have:=highB_iff.1 h1
  rw[chk_ne (by decide)]
  show(!okN h.toNat 1)=false
  rw[okN_one,decide_eq_true (show 1≤h.toNat by omega),decide_eq_true (show h.toNat≤32 by omega)];rfl
 have e0:stepI h=(stepN h,0):=by unfold stepI;rw[c0];rfl
 have e1:(pairsI h).2=0:=by unfold pairsI;rw[e0];rfl
 unfold manyV
 rw[e1]
 have:k=1∨k=2∨k=3:=by omega
 rcases this with rfl|rfl|rfl<;>rfl
theorem len64 {l:List Int} (h:l.length≤64):(decide ((l.length:Int)=l.length)&&decide ((l.length:Int)≤64))=true:=by
 rw[decide_eq_true (show((l.length:Int))=l.length from rfl),decide_eq_true (show(l.length:Int)≤64 by omega)];rfl
theorem refP_eq {h k i:Int} (hi:IntKind.u64.has i):refP h k i=some (rls (pairsL h k i).1 (pairsL h k i).2):=by
 obtain⟨c0,c1,c2⟩:=hasU hi
 unfold refP pairsL noPr
 cases hl:(leafI h i).2 != 0 with
 |true=>
  have:(bif (manyV h k).2 != 0 then true else true)=true:=by cases (manyV h k).2 != 0<;>rfl
  rw[this];rfl
 |false=>
  have hlo:leafOk h.toNat i.toNat=true:=by rw[leaf_ne c0 c1]at hl;simpa using hl
  obtain⟨l1,l2,l3⟩:=leafOk_iff.1 hlo
  have hh:highB h=true:=highB_iff.2 (by omega)
  by_cases hk:1≤k∧k≤3
  ·rw[many_zero hh hk,decide_eq_false (show ¬k<1 by omega),decide_eq_false (show ¬k>3 by omega)]
   have ev:=leaf_val c0 c1 hlo
   obtain⟨H,rfl⟩:=Int.eq_ofNat_of_zero_le (show 0≤h by omega)
   rw[Int.toNat_natCast]at l1 l2 l3 ev
   rw[ev,Int.toNat_natCast,Int.toNat_natCast]
   have a:LeafAt H i.toNat:=⟨l1,l2,l3⟩
   have hp:=leafN_ne (h:=H) (i:=i.toNat)
   rw[decide_eq_true (show(1:Int)≤((leafN H i.toNat:Nat):Int) by omega),len64 (by rw[a.len];omega),decide_eq_true (show chainN (leafN H i.toNat)=chainN (leafN H i.toNat)from rfl),decide_eq_true (show([(1,0)]:List (Int×Int)).length≤1 from Nat.le_refl 1)]
   cases k1:k==1 with
   |true=>rw[a.whole];rfl
   |false=>
    have k1:k≠1:=by simpa using k1
    rw[a.outer k (by omega) H 0 _ (by omega),List.drop_zero];rfl
  ·have e1:((manyV h k).2 != 0)=true:=by
    cases e:(manyV h k).2 != 0 with
    |true=>rfl
    |false=>exact absurd (many_ok e).2.2.1 (by omega)
   have e2:(bif bif false then true else decide (k<1)then true else decide (k>3))=true:=by
    cases e:decide (k<1)with
    |true=>rfl
    |false=>have:=of_decide_eq_false e;exact decide_eq_true (by omega)
   rw[e1,e2];rfl
theorem g334:GoodS Tryz.prog N334 s310:=by
 refine good (.cons g344 (.cons g370 (.cons g371 (.cons g372 (.nil _))))) H334 rfl (by kernel_rfl) Λ334 live334 (threeLoops (p0:=loopK F334 0) (p1:=loopK F334 1) (p2:=loopK F334 2) (by kernel_rfl) loop334a loop334b loop334c) [.v I,.v I,.v U] (by decide) [.sl true Subset] _ fun x r hw e=> ?_
 obtain⟨h,k,i⟩:=x
 cases e
 exact(r334 h k i).trans (refP_eq hw.2.2)
theorem accL_eq (a:Int): ∀(l out:List Int),accL a l out=out++(l.filter (selB a)).map bitO:=by
 intro l
 induction l with
 |nil=>intro out;simp [accL]
 |cons x l ih=>
  intro out
  rw[accL,ih]
  cases hx:selB a x with
  |true=>rw[List.filter_cons_of_pos hx];simp
  |false=>rw[List.filter_cons_of_neg (by rw[hx];decide)];simp
theorem sel_at {a b d:Nat} (ha:a≠0) (hb:b≠0) (h:abv a b=true) (hd:d≤b.log2):selB (a:Int) ((b/2^(b.log2-d):Nat):Int)=decide (a.log2<d):=by
 obtain⟨h1,h2⟩:=abv_iff.1 h
 have hx:b/2^(b.log2-d)≠0:=div_pos hb (by omega)
 have lx:(b/2^(b.log2-d)).log2=d:=by rw[log2_div hb (by omega)];omega
 have x1:=log2_le hx
 have x2:=lt_log2 (n:=b/2^(b.log2-d))
 rw[lx]at x1 x2
 have a1:=log2_le ha
 have a2:=lt_log2 (n:=a)
 unfold selB isI
 rw[Int.toNat_natCast,Int.toNat_natCast]
 rcases Nat.lt_trichotomy a.log2 d with hc|hc|hc
 ·have:2^(a.log2+1)≤2^d:=Nat.pow_le_pow_right (by decide) hc
  rw[decide_eq_true hc,decide_eq_true (by omega)]
  refine abv_iff.2 ⟨by omega, ?_⟩
  rw[lx,div_div_pow,show b.log2-d+(d-a.log2)=b.log2-a.log2 by omega,h2]
 ·subst hc
  rw[h2,decide_eq_false (show ¬(a:Int)>(a:Int) by omega),decide_eq_false (show ¬a.log2<a.log2 by omega)];rfl
 ·have:2^(d+1)≤2^a.log2:=Nat.pow_le_pow_right (by decide) hc
  rw[decide_eq_false (show ¬a.log2<d by omega),decide_eq_false (by omega)];rfl
theorem filter_range {A B:Nat} (h:A≤B):(List.range (B+1)).filter (fun d=>decide (A<d))=(List.range (B-A)).map (fun m=>A+1+m):=by
 rw[show B+1=(A+1)+(B-A) by omega,List.range_add,List.filter_append]
 have e1:(List.range (A+1)).filter (fun d=>decide (A<d))=[]:=by
  rw[List.filter_eq_nil_iff]
  intro d hd
  have:=List.mem_range.1 hd
  simp;omega
 rw[e1,List.nil_append,List.filter_eq_self.2]
 intro x hx
 obtain⟨m,_,rfl⟩:=List.mem_map.1 hx
 simp;omega
theorem accL_chain {a b:Nat} (ha:a≠0) (hb:b≠0) (h:abv a b=true):accL a (chainN b) []=(List.range (b.log2-a.log2)).map fun m=>((b/2^(b.log2-a.log2-1-m)%2:Nat):Int):=by
 have h1:=(abv_iff.1 h).1
 rw[accL_eq,List.nil_append]
 unfold chainN
 rw[List.filter_map]
 have e:(List.range (b.log2+1)).filter (selB (a:Int)∘fun d=>((b/2^(b.log2-d):Nat):Int))=(List.range (b.log2+1)).filter (fun d=>decide (a.log2<d)):=by
  apply List.filter_congr
  intro d hd
  exact sel_at ha hb h (by have:=List.mem_range.1 hd;omega)
 rw[e,filter_range h1,List.map_map,List.map_map]
 apply List.map_congr_left
 intro m hm
 have hm:=List.mem_range.1 hm
 show bitO ((b/2^(b.log2-(a.log2+1+m)):Nat):Int)=_
 rw[show b.log2-(a.log2+1+m)=b.log2-a.log2-1-m by omega]
 unfold bitO
 generalize b/2^(b.log2-a.log2-1-m)=x
 rw[Int.tmod_eq_emod_of_nonneg (by omega),wrap64 (by omega) (by omega)]
 omega
theorem path_run {h a b:Int} (h1:IntKind.u64.has a) (h2:IntKind.u64.has b):(bif (bif !mayN h a then true else !mayN h b)then some (rli [] 1)else bif decide (1≤b)then bif !isI a b then some (rli [] 4)else bif decide (1≤b)then
 bif decide (((chainN b.toNat).length:Int)=(chainN b.toNat).length)&&decide (((chainN b.toNat).length:Int)≤64)&&decide (0≤a)then some (rli (accL a (chainN b.toNat) []) 0)else none else none else none)=some (rli (pathI h a b).1 (pathI h a b).2):=by
 obtain⟨a0,a1,a2⟩:=hasU h1
 obtain⟨b0,b1,b2⟩:=hasU h2
 unfold pathI bothI both mayN
 rw[chk_ne a0,chk_ne b0]
 cases ho:okN h.toNat a.toNat with
 |false=>rfl
 |true=>
  cases hp:okN h.toNat b.toNat with
  |false=>rfl
  |true=>
   have ha:=(okN_iff.1 ho).2.2.1
   have hb:=(okN_iff.1 hp).2.2.1
   rw[above_nat (by omega) (by omega) b1,decide_eq_true (show 1≤b by omega)]
   unfold isI
   cases hv:abv a.toNat b.toNat with
   |false=>rfl
   |true=>
    have hl:=chain_small b1 (by omega)
    rw[len64 hl,decide_eq_true a0]
    have e1:=accL_chain (a:=a.toNat) (b:=b.toNat) (by omega) (by omega) hv
    have hlog:b.toNat.log2<64:=(Nat.log2_lt (by omega)).2 b1
    have hle:=(abv_iff.1 hv).1
    have en:(pathN a b).toNat=b.toNat.log2-a.toNat.log2:=by unfold pathN;rw[dep_nat (by omega),dep_nat (by omega)];omega
    have e2:=setG_eq (b:=b.toNat) (n:=b.toNat.log2-a.toNat.log2) b1 (by omega)
    rw[show((a.toNat:Nat):Int)=a by omega]at e1
    rw[show((b.toNat:Nat):Int)=b by omega]at e2
    rw[en,e1,e2];rfl
theorem g338:GoodS Tryz.prog N338 s311:=by
 refine good (.cons g374 (.cons g337 (.cons g370 (.nil _)))) H338 rfl (by kernel_rfl) Λ338 [(0,live338)] (oneLoop (p0:=loopK F338 0) (by kernel_rfl) loop338) [.v I,.v U,.v U] (by decide) [.sl true I] _ fun x r hw e=> ?_
 obtain⟨h,a,b⟩:=x
 cases e
 exact(r338 h a b).trans (path_run hw.2.1 hw.2.2)
abbrev live314:List (Nat×Dir):=[(0,.keep),(7,.keep),(8,.keep),(9,.keep),(10,.keep),(54,.keep),(55,.keep),(56,.keep)]
def Γ314:Orc:=orc [(N334,s310),(N335,s318),(N336,s312),(N337,s337),(N338,s311)]
def vs314 (h:Int) (s:Subset.D) (k:Int) (sd:SV) (e:Int) (l:List Subset.D) (n i:Int):List AV:=[.one (.int .i64 h),.own [.int .u64 s.1,.int .u64 s.2],.one (.int .i64 k),.one sd,.one (.int .i64 e),.one (.sl true Subset none l),.one (.int .i64 n),.one (.int .i64 i)]
noncomputable abbrev lp314 (Λ:Lam AV) (K:AE→List AV→Option AV) (fuel:Nat) (vs:List AV):Option AV:=loopN (aexec tb Γ314 Λ ⟨102,0,[(0,live314)]⟩ (loopK F314 0).2 0) 102 0 live314 K fuel vs
abbrev live316:List (Nat×List (Nat×Dir)):=[(0,[(0,.keep),(1,.keep),(2,.keep),(6,.keep),(7,.keep),(24,.keep),(25,.keep),(26,.keep)]),(2,[(0,.keep),(1,.keep),(6,.keep),(7,.keep),(35,.keep),(36,.keep),(37,.keep)])]
def Γ316:Orc:=orc [(N344,s344),(N345,s345),(N336,s312)]
def vs316a (h i:Int) (l:List Subset.D) (r e:Int) (n j:Int):List AV:=[.one (.int .i64 h),.one (.int .u64 i),.one (.sl false Subset none l),.one (.int .i64 r),.one (.int .i64 e),.one (.sl false Subset none l),.one (.int .i64 n),.one (.int .i64 j)]
def vs316b (h i:Int) (r e:Int) (l:List Subset.D) (n j:Int):List AV:=[.one (.int .i64 h),.one (.int .u64 i),.one (.int .i64 r),.one (.int .i64 e),.one (.sl false Subset none l),.one (.int .i64 n),.one (.int .i64 j)]
noncomputable abbrev l16a (Λ:Lam AV) (K:AE→List AV→Option AV) (fuel:Nat) (vs:List AV):Option AV:=loopN (aexec tb Γ316 Λ ⟨52,0,live316⟩ (loopK F316 0).2 0) 52 0 [(0,.keep),(1,.keep),(2,.keep),(6,.keep),(7,.keep),(24,.keep),(25,.keep),(26,.keep)] K fuel vs
noncomputable abbrev l16b (Λ:Lam AV) (K:AE→List AV→Option AV) (fuel:Nat) (vs:List AV):Option AV:=loopN (aexec tb Γ316 Λ ⟨52,0,live316⟩ (loopK F316 1).2 2) 52 0 [(0,.keep),(1,.keep),(6,.keep),(7,.keep),(35,.keep),(36,.keep),(37,.keep)] K fuel vs
def h0B (s x:Subset.D):Bool:=bif s.2==0 then x.2==0 else false
def h1B (s x:Subset.D):Bool:=bif s.2 != 0 then x.2 != 0 else false
theorem step314 (h:Int) (s:Subset.D) (k:Int) (e:Int) (l:List Subset.D) (n i:Int) (Λ:Lam AV) (fuel:Nat) (K:AE→List AV→Option AV):lp314 Λ K (fuel+1) (vs314 h s k .nils e l n i)=
 bif decide (i<n)then bif inB i l.length then
  bif (sAt l i).1 != s.1 then lp314 Λ K fuel (vs314 h s k .nils e l n (IntKind.i64.wrap (i+1)))else
  bif h0B s (sAt l i)then K .ret (vs314 h s i .nils 0 l n i)else
  bif decide (1≤s.2)|| !boolBeq (h1B s (sAt l i)) true then
   bif (bif h1B s (sAt l i)then isI (sAt l i).2 s.2 else false)then K .ret (vs314 h s i (.sl true I none (pathI h (sAt l i).2 s.2).1) 0 l n i)
   else lp314 Λ K fuel (vs314 h s k .nils e l n (IntKind.i64.wrap (i+1)))
  else none
 else none else K (.exit 0) (vs314 h s k .nils e l n i):=by kernel_rfl
def retE (h:Int) (s:Subset.D) (l:List Subset.D) (n:Int) (K:AE→List AV→Option AV) (j:Nat):Option AV:=
 bif s.2==0 then K .ret (vs314 h s j .nils 0 l n j)else K .ret (vs314 h s j (.sl true I none (pathI h (sAt l j).2 s.2).1) 0 l n j)
def Λ314:Lam AV:=fun cur vs K=>
 match cur,vs with
 |0,[.one (.int .i64 h),.own [.int .u64 a,.int .u64 b],.one (.int .i64 k),.one .nils,.one (.int .i64 e),.one (.sl true (.pair (.int .u64) (.int .u64)) none l),.one (.int .i64 n),.one (.int .i64 0)]=>
  bif decide (n=l.length)&&decide (n≤9223372036854775807)&&decide (0≤b)then allK (retE h (a,b) l n K) (K (.exit 0) (vs314 h (a,b) k .nils e l n n)) (fun j=>hitB (a,b) (sAt l j)) n.toNat 0 else none
 |_,_=>none
theorem is_guard {s x:Int×Int} (h:0≤s.2):(decide (1≤s.2)|| !boolBeq (h1B s x) true)=true:=by
 cases e:s.2 != 0 with
 |false=>unfold h1B;rw[e];cases decide (1≤s.2)<;>rfl
 |true=>have:s.2≠0:=ne_of e;rw[decide_eq_true (show 1≤s.2 by omega)];rfl
theorem loop314:LoopP tb Γ314 Λ314 ⟨102,0,[(0,live314)]⟩ (loopK F314 0):=by
 intro vs K out e
 have hcur:(loopK F314 0).1=0:=by kernel_rfl
 rw[hcur]at e⊢
 unfold Λ314 at e
 split at e
 ·rename_i h a b k e0 l n _
  cases hc:(decide (n=l.length)&&decide (n≤9223372036854775807)&&decide (0≤b))with
  |false=>rw[hc]at e;cases e
  |true=>
   rw[hc]at e
   simp only[cond_true]at e
   simp only[Bool.and_eq_true,decide_eq_true_eq]at hc
   obtain⟨⟨rfl,hmax⟩,hb⟩:=hc
   refine upLoop (α:=Unit) (n:=l.length) (F:=fun fuel _ j=>lp314 Λ314 K fuel (vs314 h (a,b) k .nils e0 l l.length j))
    (G:=fun j _=>allK (retE h (a,b) l l.length K) (K (.exit 0) (vs314 h (a,b) k .nils e0 l l.length l.length)) (fun j=>hitB (a,b) (sAt l j)) (l.length-j) j)
    (fun fuel _=> ?_) (fun _ j hj=> ?_) l.length 0 () out (by omega) e
   ·simp only[step314,nlt_dec,cond_false,Nat.sub_self,allK]
   ·have hm:l.length-j=(l.length-(j+1))+1:=by omega
    have hg:=is_guard (s:=(a,b)) (x:=sAt l j) hb
    have ew:IntKind.i64.wrap ((j:Int)+1)=((j+1:Nat):Int):=wrap64 (n:=(j:Int)+1) (by omega) (by omega)
    cases hx:hitB (a,b) (sAt l j)with
    |true=>
     right;intro fuel
     simp only[hm,allK,hx,cond_true,step314,lt_dec hj,inB_lt hj,hg]
     unfold hitB at hx
     simp only[Bool.and_eq_true]at hx
     obtain⟨h1,h2⟩:=hx
     have h1':((sAt l j).1 != a)=false:=by unfold bne;rw[show((sAt l j).1==a)=true from h1];rfl
     unfold retE h0B h1B bne
     cases hz:b==0 with
     |true=>
      simp only[hz,cond_true]at h2
      simp only[bne]at h1'
      simp only[h1',hz,h2,cond_false,cond_true]
     |false=>
      simp only[hz,cond_false]at h2
      simp only[bne]at h1'
      cases hy:(sAt l j).2 != 0 with
      |false=>rw[hy]at h2;cases h2
      |true=>
       rw[hy]at h2
       simp only[bne]at hy
       simp only[cond_true]at h2
       simp only[h1',hz,hy,h2,cond_false,cond_true,Bool.not_false]
    |false=>
     left;refine⟨(),fun fuel=> ?_, ?_⟩
     ·simp only[step314,lt_dec hj,inB_lt hj,cond_true,hg,ew]
      unfold hitB at hx
      unfold h0B h1B bne
      cases h1:(sAt l j).1==a with
      |false=>rfl
      |true=>
       simp only[h1,Bool.true_and]at hx
       simp only[Bool.not_true,cond_false]
       cases hz:b==0 with
       |true=>simp only[hz,cond_true]at hx;simp only[hx,cond_true,cond_false,Bool.not_true]
       |false=>
        simp only[hz,cond_false]at hx
        simp only[cond_false,Bool.not_false,cond_true]
        simp only[bne]at hx
        cases hy:(sAt l j).2==0 with
        |true=>rfl
        |false=>rw[hy]at hx;simp only[Bool.not_false,cond_true]at hx;simp only[hx,Bool.not_false,cond_true,cond_false]
     ·simp only[hm,allK,hx,cond_false]
 ·cases e
def refE (h k i:Int) (s:Subset.D):Option AV:=
 bif (bif bif (pairsL h k i).2 != 0 then true else(mayI h k s).2 != 0 then true else !(mayI h k s).1)then some (ren 0 [] 1)else bif !(hasI h s i).1 then some (ren 0 [] 4)else
  bif decide (((pairsL h k i).1.length :Int)=(pairsL h k i).1.length)&&decide (((pairsL h k i).1.length :Int)≤9223372036854775807)&&decide (0≤s.2)then
   allK (fun j=>bif s.2==0 then some (ren j [] 0)else some (ren j (pathI h (sAt (pairsL h k i).1 j).2 s.2).1 0)) (some (ren 0 [] 4)) (fun j=>hitB s (sAt (pairsL h k i).1 j)) (((pairsL h k i).1.length :Int)).toNat 0 else none
theorem r314 (h k i:Int) (s:Subset.D):run Γ314 Λ314 [(0,live314)] F314 (encA [.v I,.v I,.v U,.v Subset] (h,k,i,s)) [.id,.sl true I,.id]=refE h k i s:=by kernel_rfl
theorem st16a (h i:Int) (l:List Subset.D) (r e:Int) (n j:Int) (Λ:Lam AV) (fuel:Nat) (K:AE→List AV→Option AV):l16a Λ K (fuel+1) (vs316a h i l r e n j)=
 bif decide (j<n)then bif inB j l.length then bif badS h (sAt l j)then K .ret (vs316a h i l 0 1 n j)else l16a Λ K fuel (vs316a h i l r e n (IntKind.i64.wrap (j+1)))else none else K (.exit 0) (vs316a h i l r e n j):=by kernel_rfl
theorem st16b (h i:Int) (l:List Subset.D) (r e:Int) (n j:Int) (Λ:Lam AV) (fuel:Nat) (K:AE→List AV→Option AV):l16b Λ K (fuel+1) (vs316b h i r e l n j)=
 bif decide (j<n)then bif inB j l.length then bif (hasI h (sAt l j) i).1 then K .ret (vs316b h i j 0 l n j)else l16b Λ K fuel (vs316b h i r e l n (IntKind.i64.wrap (j+1)))else none else K (.exit 2) (vs316b h i r e l n j):=by kernel_rfl
def Λ316:Lam AV:=fun cur vs K=>
 match cur,vs with
 |0,[.one (.int .i64 h),.one (.int .u64 i),.one (.sl false (.pair (.int .u64) (.int .u64)) none l'),.one (.int .i64 r),.one (.int .i64 e),.one (.sl false (.pair (.int .u64) (.int .u64)) none l),.one (.int .i64 n),.one (.int .i64 0)]=>
  bif decide (l'=l)&&decide (n=l.length)&&decide (n≤9223372036854775807)then allK (fun j=>K .ret (vs316a h i l 0 1 n j)) (K (.exit 0) (vs316a h i l r e n n)) (fun j=>badS h (sAt l j)) n.toNat 0 else none
 |2,[.one (.int .i64 h),.one (.int .u64 i),.one (.int .i64 r),.one (.int .i64 e),.one (.sl false (.pair (.int .u64) (.int .u64)) none l),.one (.int .i64 n),.one (.int .i64 0)]=>
  bif decide (n=l.length)&&decide (n≤9223372036854775807)then allK (fun j=>K .ret (vs316b h i j 0 l n j)) (K (.exit 2) (vs316b h i r e l n n)) (fun j=>(hasI h (sAt l j) i).1) n.toNat 0 else none
 |_,_=>none
theorem loop316a:LoopP tb Γ316 Λ316 ⟨52,0,live316⟩ (loopK F316 0):=by
 intro vs K out e
 have hcur:(loopK F316 0).1=0:=by kernel_rfl
 rw[hcur]at e⊢
 unfold Λ316 at e
 split at e
 ·rename_i h i l' r e0 l n _
  cases hc:(decide (l'=l)&&decide (n=l.length)&&decide (n≤9223372036854775807))with
  |false=>rw[hc]at e;cases e
  |true=>
   rw[hc]at e
   simp only[cond_true]at e
   simp only[Bool.and_eq_true,decide_eq_true_eq]at hc
   obtain⟨⟨rfl,rfl⟩,hmax⟩:=hc
   refine upLoop (α:=Unit) (n:=l'.length) (F:=fun fuel _ j=>l16a Λ316 K fuel (vs316a h i l' r e0 l'.length j))
    (G:=fun j _=>allK (fun j=>K .ret (vs316a h i l' 0 1 l'.length j)) (K (.exit 0) (vs316a h i l' r e0 l'.length l'.length)) (fun j=>badS h (sAt l' j)) (l'.length-j) j)
    (fun fuel _=> ?_) (fun _ j hj=> ?_) l'.length 0 () out (by omega) e
   ·simp only[st16a,nlt_dec,cond_false,Nat.sub_self,allK]
   ·have hm:l'.length-j=(l'.length-(j+1))+1:=by omega
    cases hx:badS h (sAt l' j)with
    |true=>right;intro fuel;simp only[st16a,lt_dec hj,inB_lt hj,hx,cond_true,hm,allK]
    |false=>
     left;refine⟨(),fun fuel=> ?_, ?_⟩
     ·simp only[st16a,lt_dec hj,inB_lt hj,hx,cond_true,cond_false]
      rw[wrap64 (by omega) (by omega)];rfl
     ·simp only[hm,allK,hx,cond_false]
 ·rename_i hh;cases hh
 ·cases e
theorem loop316b:LoopP tb Γ316 Λ316 ⟨52,0,live316⟩ (loopK F316 1):=by
 intro vs K out e
 have hcur:(loopK F316 1).1=2:=by kernel_rfl
 rw[hcur]at e⊢
 unfold Λ316 at e
 split at e
 ·rename_i hh;cases hh
 ·rename_i h i r e0 l n _
  cases hc:(decide (n=l.length)&&decide (n≤9223372036854775807))with
  |false=>rw[hc]at e;cases e
  |true=>
   rw[hc]at e
   simp only[cond_true]at e
   simp only[Bool.and_eq_true,decide_eq_true_eq]at hc
   obtain⟨rfl,hmax⟩:=hc
   refine upLoop (α:=Unit) (n:=l.length) (F:=fun fuel _ j=>l16b Λ316 K fuel (vs316b h i r e0 l l.length j))
    (G:=fun j _=>allK (fun j=>K .ret (vs316b h i j 0 l l.length j)) (K (.exit 2) (vs316b h i r e0 l l.length l.length)) (fun j=>(hasI h (sAt l j) i).1) (l.length-j) j)
    (fun fuel _=> ?_) (fun _ j hj=> ?_) l.length 0 () out (by omega) e
   ·simp only[st16b,nlt_dec,cond_false,Nat.sub_self,allK]
   ·have hm:l.length-j=(l.length-(j+1))+1:=by omega
    cases hx:(hasI h (sAt l j) i).1 with
    |true=>right;intro fuel;simp only[st16b,lt_dec hj,inB_lt hj,hx,cond_true,hm,allK]
    |false=>
     left;refine⟨(),fun fuel=> ?_, ?_⟩
     ·simp only[st16b,lt_dec hj,inB_lt hj,hx,cond_true,cond_false]
      rw[wrap64 (by omega) (by omega)];rfl
     ·simp only[hm,allK,hx,cond_false]
 ·cases e
def refF (h i:Int) (l:List Subset.D):Option AV:=
 bif (leafI h i).2 != 0 then some (ri2 0 1)else
  bif decide (l=l)&&decide ((l.length:Int)=l.length)&&decide ((l.length:Int)≤9223372036854775807)then
   allK (fun _=>some (ri2 0 1)) (bif decide ((l.length:Int)=l.length)&&decide ((l.length:Int)≤9223372036854775807)then allK (fun j=>some (ri2 j 0)) (some (ri2 0 4)) (fun j=>(hasI h (sAt l j) i).1) (l.length:Int).toNat 0 else none) (fun j=>badS h (sAt l j)) (l.length:Int).toNat 0
  else none
theorem r316 (h i:Int) (l:List Subset.D):run Γ316 Λ316 live316 F316 (encA [.v I,.v U,.v (.sl Subset)] (h,i,l)) []=refF h i l:=by kernel_rfl
theorem allK_idxP {R:Nat→Option AV} {E:Option AV} {p:Int×Int→Bool} (l:List (Int×Int)): ∀(m j:Nat),j+m=l.length→
 allK R E (fun j=>p (sAt l j)) m j=bif decide (idxP p (l.drop j) j<0)then E else R (idxP p (l.drop j) j).toNat:=by
 intro m
 induction m with
 |zero=>
  intro j hj
  rw[List.drop_of_length_le (by omega)];rfl
 |succ m ih=>
  intro j hj
  have h1:j<l.length:=by omega
  rw[allK,ih (j+1) (by omega),sAt_drop h1]
  rcases Bool.eq_false_or_eq_true (p (sAt l j))with hx|hx
  ·simp only[idxP,hx,cond_true]
   rw[decide_eq_false (show ¬(j:Int)<0 by omega),Int.toNat_natCast];rfl
  ·simp only[idxP,hx,cond_false];rfl
theorem allK_all {R:Nat→Option AV} {E:Option AV} {p:Int×Int→Bool} (l:List (Int×Int)):allK R E (fun j=>p (sAt l j)) (l.length:Int).toNat 0=bif decide (idxP p l 0<0)then E else R (idxP p l 0).toNat:=by
 rw[Int.toNat_natCast,allK_idxP l l.length 0 (by omega),List.drop_zero];rfl
theorem idxS_P (s:Int×Int): ∀(l:List (Int×Int)) (i:Int),idxS s l i=idxP (fun x=>s.1==x.1&&s.2==x.2) l i:=by
 intro l
 induction l with
 |nil=>intro i;rfl
 |cons x l ih=>intro i;simp only[idxS,idxP,ih]
theorem idxP_congr {p q:Int×Int→Bool}: ∀ {l:List (Int×Int)} (i:Int),(∀x∈l,p x=q x)→idxP p l i=idxP q l i:=by
 intro l
 induction l with
 |nil=>intro i _;rfl
 |cons x l ih=>
  intro i h
  simp only[idxP]
  rw[h x (by simp),ih (i+1) fun y hy=>h y (by simp [hy])]
theorem entry_ref {h k i:Int} {s:Int×Int} (h1:IntKind.u64.has s.1) (h2:IntKind.u64.has s.2) (hi:IntKind.u64.has i) (hlen:(pairsL h k i).1.length ≤9223372036854775807):refE h k i s=some (reE (entryI h k i s)):=by
 obtain⟨c0,c1,c2⟩:=hasU hi
 obtain⟨b0,b1,b2⟩:=hasU h2
 unfold refE entryI noEn
 cases hp:(pairsL h k i).2 != 0 with
 |true=>rfl
 |false=>
  have hn:noPr h k i=false:=by
   cases hn:noPr h k i with
   |false=>rfl
   |true=>unfold pairsL at hp;rw[hn]at hp;cases hp
  have hl:=(noPr_ok hn).2
  have hlo:leafOk h.toNat i.toNat=true:=by rw[leaf_ne c0 c1]at hl;simpa using hl
  rw[hl]
  cases hm:(mayI h k s).2 != 0 with
  |true=>rfl
  |false=>
   cases hm1:(mayI h k s).1 with
   |false=>rfl
   |true=>
    have hmay:mayI h k s=(true,0):=Prod.ext hm1 (by simpa using hm)
    have hok:okS h.toNat s.1.toNat s.2.toNat =true:=by
     unfold mayI at hmay
     cases h3:mayB3 h k s with
     |true=>rw[h3]at hmay;cases hmay
     |false=>
      unfold mayB3 at h3
      cases h4:schE h k != 0 with
      |true=>rw[h4]at h3;cases h3
      |false=>
       rw[h4]at h3
       simp only[cond_false]at h3
       rw[subE_ne h1 h2]at h3
       simpa using h3
    have hv:=has_nat (h:=h) h1 h2 hi
    rw[hok,hlo]at hv
    simp only[Bool.and_self,cond_true]at hv
    rw[hv]
    cases hh:hasN h.toNat s.1.toNat s.2.toNat i.toNat with
    |false=>rfl
    |true=>
     rw[lenMax hlen,decide_eq_true b0]
     simp only[Bool.not_true,cond_false,Bool.and_self,cond_true]
     show allK _ _ _ _ _=some (reE (bif s.2 != 0 then _ else _))
     cases hz:s.2==0 with
     |true=>
      have hz':(s.2 != 0)=false:=by unfold bne;rw[hz];rfl
      have hs0:s.2=0:=by simpa using hz
      rw[hz']
      simp only[cond_false,cond_true]
      rw[allK_all (p:=hitB s) (pairsL h k i).1]
      have e:idxP (hitB s) (pairsL h k i).1 0=idxS s (pairsL h k i).1 0:=by
       rw[idxS_P]
       apply idxP_congr
       intro y _
       unfold hitB
       rw[hz,hs0,BEq.comm (a:=y.1),BEq.comm (a:=y.2)];rfl
      rw[e]
      unfold atI
      cases hd:decide (idxS s (pairsL h k i).1 0<0)with
      |true=>rfl
      |false=>
       have:=of_decide_eq_false hd
       show some (ren (((idxS s (pairsL h k i).1 0).toNat:Nat):Int) [] 0)=some (ren (idxS s (pairsL h k i).1 0) [] 0)
       rw[show(((idxS s (pairsL h k i).1 0).toNat:Nat):Int)=idxS s (pairsL h k i).1 0 by omega]
     |false=>
      have hz':(s.2 != 0)=true:=by unfold bne;rw[hz];rfl
      have hs0:s.2≠0:=by simpa using hz
      have hk:k≠1:=by
       rintro rfl
       exact hs0 (may_whole hmay)
      obtain⟨e1,e2,e3⟩:=ent_J h1 h2 hi hn hk hs0 hok hh
      rw[hz',e1,e2]
      simp only[cond_false,cond_true]
      rw[allK_all (p:=hitB s) (pairsL h k i).1]
      have e:idxP (hitB s) (pairsL h k i).1 0=idxS (s.1,fromJ h i s) (pairsL h k i).1 0:=by
       rw[idxS_P]
       exact idxP_congr 0 e3
      rw[e]
      show _=some (reE (atI _ _ _))
      unfold atI
      cases hd:decide (idxS (s.1,fromJ h i s) (pairsL h k i).1 0<0)with
      |true=>rfl
      |false=>
       have hd:=of_decide_eq_false hd
       obtain⟨g1,g2,g3,_⟩:=idxS_ok hd
       show some (ren _ _ 0)=some (ren _ _ 0)
       rw[show(((idxS (s.1,fromJ h i s) (pairsL h k i).1 0).toNat:Nat):Int)=idxS (s.1,fromJ h i s) (pairsL h k i).1 0 by omega,g3]
       rfl
theorem first_ref {h i:Int} {l:List (Int×Int)} (hlen:l.length≤9223372036854775807):refF h i l=some (ri2 (firstI h i l).1 (firstI h i l).2):=by
 unfold refF firstI
 have e1:=lenMax hlen
 have e2:(decide (l=l)&&decide ((l.length:Int)=l.length)&&decide ((l.length:Int)≤9223372036854775807))=true:=by rw[decide_eq_true (show l=l from rfl),Bool.true_and];exact e1
 rw[e2,e1]
 cases (leafI h i).2 != 0 with
 |true=>rfl
 |false=>
  simp only[cond_false,cond_true]
  rw[allK_all (p:=badS h) l,allK_all (p:=fun x=>(hasI h x i).1) l]
  have e3:idxP (fun x=>(hasI h x i).1) l 0=idxP (hasS h i) l 0:=by
   apply idxP_congr
   intro y _
   unfold hasS hasI
   cases badH h y i<;>rfl
  rw[e3]
  cases hb:decide (idxP (badS h) l 0<0)with
  |false=>
   rw[decide_eq_true (show idxP (badS h) l 0≥0 by have:=of_decide_eq_false hb;omega)];rfl
  |true=>
   rw[decide_eq_false (show ¬idxP (badS h) l 0≥0 by have:=of_decide_eq_true hb;omega)]
   simp only[cond_true,cond_false]
   cases hd:decide (idxP (hasS h i) l 0<0)with
   |true=>rfl
   |false=>
    have hd:=of_decide_eq_false hd
    simp only[cond_false]
    rw[show(((idxP (hasS h i) l 0).toNat:Nat):Int)=idxP (hasS h i) l 0 by omega]
end Go.AM.Seat
