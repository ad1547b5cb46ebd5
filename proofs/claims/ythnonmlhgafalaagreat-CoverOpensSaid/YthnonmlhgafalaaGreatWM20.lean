import Derived.Test.YthnonmlhgafalaaGreatWM17
set_option linter.unusedVariables false
set_option linter.unusedSimpArgs false
set_option maxRecDepth 100000
namespace Go.AM.Seat
open Go Go.AM Go.Proofs
theorem r421 (a:Int):run (orc []) noL [] F421 [.one (.int .u64 a)] []=some (.one (.bool (a != a))):=by kernel_rfl
def s421:Sp:= .fn [.v U] fun x=>(true,.one (.bool false))
theorem g421:GoodS Tryz.prog N421 s421:=by
 refine good (OrcOk.nil _) H421 rfl (by kernel_rfl) noL [] (noLoops (by kernel_rfl)) [.v U] (by decide) [] _ fun x r hw e=> ?_
 cases e
 refine(r421 x).trans ?_
 rw[show(x != x)=false from bne_self_eq_false x]
def Γ422:Orc:=orc [(N421,s421)]
theorem r422 (a b:Int):run Γ422 noL [] F422 [.one (.int .u64 a),.one (.int .u64 b)] []=some (.one (.bool (decide (a<b)))):=by kernel_rfl
def s422:Sp:= .fn [.v U,.v U] fun x=>(true,.one (.bool (decide ((x.1:Int)<x.2))))
theorem g422:GoodS Tryz.prog N422 s422:=by
 refine good (.cons g421 (.nil _)) H422 rfl (by kernel_rfl) noL [] (noLoops (by kernel_rfl)) [.v U,.v U] (by decide) [] _ fun x r hw e=> ?_
 obtain⟨a,b⟩:=x
 cases e
 exact r422 a b
def Γ402u:Orc:=orc [(N422,s422),(N423,s423)]
abbrev live402u:List (Nat×Dir):=[(0,.keep),(1,.keep),(6,.keep),(7,.keep),(8,.keep)]
def vs402u (xs:List Int) (t n i j:Int):List AV:=[.one (.sl false U none xs),.one (.int .u64 t),.one (.int .i64 n),.one (.int .i64 i),.one (.int .i64 j)]
noncomputable abbrev lo402u (Λ:Lam AV) (K:AE→List AV→Option AV) (fuel:Nat) (vs:List AV):Option AV:=loopN (aexec tb Γ402u Λ ⟨54,0,[(0,live402u)]⟩ (loop1 F402).2 0) 54 0 live402u K fuel vs
def bsAu (l:List Int) (i:Int):Int:=l.getD i.toNat (Ty.int IntKind.u64).dflt
def midWu (i j:Int):Int:=IntKind.i64.wrap ((IntKind.u64.wrap (IntKind.i64.wrap (i+j))).fdiv (2^min (Int.toNat 1) IntKind.u64.bits))
theorem step402u (xs:List Int) (t n i j:Int) (Λ:Lam AV) (K:AE→List AV→Option AV) (fuel:Nat):lo402u Λ K (fuel+1) (vs402u xs t n i j)=
 bif decide (i<j)then bif inB (midWu i j) xs.length then
  bif decide (bsAu xs (midWu i j)<t)then lo402u Λ K fuel (vs402u xs t n (IntKind.i64.wrap (midWu i j+1)) j)else lo402u Λ K fuel (vs402u xs t n i (midWu i j))
 else none else K (.exit 0) (vs402u xs t n i j):=by kernel_rfl
theorem midW_equ {i j:Nat} (h:i+j≤9223372036854775807):midWu i j=(((i+j)/2:Nat):Int):=by
 unfold midWu
 rw[wrap64 (n:=(i:Int)+j) (by omega) (by omega),wrapU (by omega) (by omega)]
 have e:(2:Int)^min (Int.toNat 1) IntKind.u64.bits=2:=by decide
 rw[e]
 have e2:((i:Int)+j).fdiv 2=(((i+j)/2:Nat):Int):=by
  rw[Int.fdiv_eq_ediv_of_nonneg _ (by omega)];omega
 rw[e2]
 exact wrap64 (by omega) (by omega)
def bsNu (xs:List Int) (t:Int):Nat→Nat→Nat→Nat
 |0,i,_=>i
 |f+1,i,j=>bif decide (i<j)then bif decide (bsAu xs ((i+j)/2:Nat)<t)then bsNu xs t f ((i+j)/2+1) j else bsNu xs t f i ((i+j)/2)else i
def bsPu (xs:List Int) (t:Int):Nat:=bsNu xs t (xs.length+1) 0 xs.length
def Λ402u:Lam AV:=fun cur vs K=>
 match cur,vs with
 |0,[.one (.sl false (.int .u64) none xs),.one (.int .u64 t),.one (.int .i64 n),.one (.int .i64 0),.one (.int .i64 j)]=>
  bif decide (n=xs.length)&&(decide (j=xs.length)&&decide ((xs.length:Int)≤4611686018427387903))then K (.exit 0) (vs402u xs t n (bsPu xs t) (bsPu xs t))else none
 |_,_=>none
theorem loop402u:LoopP tb Γ402u Λ402u ⟨54,0,[(0,live402u)]⟩ (loop1 F402):=by
 intro vs K out h
 have hcur:(loop1 F402).1=0:=by kernel_rfl
 rw[hcur]at h⊢
 unfold Λ402u at h
 split at h
 ·rename_i xs t n j _
  cases hc:(decide (n=xs.length)&&(decide (j=xs.length)&&decide ((xs.length:Int)≤4611686018427387903)))with
  |false=>rw[hc]at h;cases h
  |true=>
   rw[hc]at h
   simp only[cond_true]at h
   simp only[Bool.and_eq_true,decide_eq_true_eq]at hc
   obtain⟨rfl,rfl,hmax⟩:=hc
   have key: ∀(f i j:Nat),i≤j→j≤xs.length→j-i<f→K (.exit 0) (vs402u xs t xs.length (bsNu xs t f i j) (bsNu xs t f i j))=some out→ ∃fuel,lo402u Λ402u K fuel (vs402u xs t xs.length i j)=some out:=by
    intro f
    induction f with
    |zero=>intro i j _ _ h;omega
    |succ f ih=>
     intro i j hij hj hf h
     rw[bsNu]at h
     rcases Nat.lt_or_ge i j with hlt|hge
     ·rw[decide_eq_true hlt]at h
      have hm:inB (((i+j)/2:Nat):Int) xs.length=true:=inB_lt (by omega)
      cases hx:decide (bsAu xs ((i+j)/2:Nat)<t)with
      |true=>
       rw[hx]at h
       obtain⟨fuel,hf⟩:=ih ((i+j)/2+1) j (by omega) hj (by omega) h
       refine⟨fuel+1, ?_⟩
       rw[step402u,lt_dec hlt,midW_equ (by omega),hm,hx,wrap64 (n:=(((i+j)/2:Nat):Int)+1) (by omega) (by omega)]
       exact hf
      |false=>
       rw[hx]at h
       obtain⟨fuel,hf⟩:=ih i ((i+j)/2) (by omega) (by omega) (by omega) h
       refine⟨fuel+1, ?_⟩
       rw[step402u,lt_dec hlt,midW_equ (by omega),hm,hx]
       exact hf
     ·obtain rfl:i=j:=by omega
      rw[decide_eq_false (Nat.lt_irrefl _)]at h
      exact⟨1,by rw[step402u,nlt_dec];exact h⟩
   exact key (xs.length+1) 0 xs.length (Nat.zero_le _) (Nat.le_refl _) (by omega) h
 ·cases h
def foundBu (xs:List Int) (t:Int):Bool:=bif decide ((bsPu xs t:Int)<xs.length)then(bif bsAu xs (bsPu xs t)==t then true else false)else false
def bsRu (xs:List Int) (t:Int):AV:= .tup [(false,[.int .i64 (bsPu xs t)]),(false,[.bool (foundBu xs t)])]
theorem r402u (xs:List Int) (t:Int):run Γ402u Λ402u [(0,live402u)] F402 [.one (.sl false U none xs),.one (.int .u64 t)] []=
 bif decide ((xs.length:Int)=xs.length)&&(decide ((xs.length:Int)=xs.length)&&decide ((xs.length:Int)≤4611686018427387903))then
  bif inB (bsPu xs t) xs.length|| !boolBeq (decide ((bsPu xs t:Int)<xs.length)) true then
   bif inB (bsPu xs t) xs.length|| !(boolBeq (decide ((bsPu xs t:Int)<xs.length)) true&&boolBeq (bsAu xs (bsPu xs t)==t) false)then some (bsRu xs t)else none
  else none
 else none:=by kernel_rfl
def s402u:Sp:= .fn [.v (.sl U),.v U] fun x=>(decide (x.1.length ≤1000000),bsRu x.1 x.2)
theorem g402u:GoodS Tryz.prog N402 s402u:=by
 refine good (.cons g422 (.cons g423 (.nil _))) H402 rfl (by kernel_rfl) Λ402u [(0,live402u)] (oneLoop (p0:=loop1 F402) (by kernel_rfl) loop402u) [.v (.sl U),.v U] (by decide) [] _ fun x r hw h=> ?_
 obtain⟨xs,t⟩:=x
 simp only[Prod.mk.injEq,decide_eq_true_eq]at h
 obtain⟨h1,rfl⟩:=h
 refine(r402u xs t).trans ?_
 rw[decide_eq_true rfl,decide_eq_true (show(xs.length:Int)≤4611686018427387903 by omega)]
 have key:(inB (bsPu xs t) xs.length|| !boolBeq (decide ((bsPu xs t:Int)<xs.length)) true)=true∧(inB (bsPu xs t) xs.length|| !(boolBeq (decide ((bsPu xs t:Int)<xs.length)) true&&boolBeq (bsAu xs (bsPu xs t)==t) false))=true:=by
  rcases Nat.lt_or_ge (bsPu xs t) xs.length with h|h
  ·rw[inB_lt h];exact⟨rfl,rfl⟩
  ·rw[decide_eq_false (show ¬(bsPu xs t:Int)<xs.length by omega)]
   exact⟨by simp [boolBeq],by simp [boolBeq]⟩
 rw[key.1,key.2];rfl
theorem bsN_specu {xs:List Int} {t:Int} (hs:xs.Pairwise (· < ·)): ∀(f i j:Nat),i≤j→j≤xs.length→j-i<f→(∀k,k<i→bsAu xs k<t)→(∀k,j≤k→k<xs.length→ ¬bsAu xs k<t)→
 bsNu xs t f i j≤xs.length∧(∀k,k<bsNu xs t f i j→bsAu xs k<t)∧(∀k,bsNu xs t f i j≤k→k<xs.length→ ¬bsAu xs k<t):=by
 have hmono: ∀a b,a<b→b<xs.length→bsAu xs a<bsAu xs b:=fun a b hab hb=>by
  have h:=List.pairwise_iff_getElem.1 hs a b (by omega) hb hab
  unfold bsAu;simpa [show a<xs.length by omega,hb]using h
 intro f
 induction f with
 |zero=>intro i j _ _ h;omega
 |succ f ih=>
  intro i j hij hj hf h1 h2
  rw[bsNu]
  rcases Nat.lt_or_ge i j with hlt|hge
  ·rw[decide_eq_true hlt]
   cases hx:decide (bsAu xs ((i+j)/2:Nat)<t)with
   |true=>
    have hx:=of_decide_eq_true hx
    refine ih _ _ (by omega) hj (by omega) (fun k hk=> ?_) h2
    rcases Nat.lt_or_ge k ((i+j)/2)with h9|h9
    ·exact Int.lt_trans (hmono k _ h9 (by omega)) hx
    ·obtain rfl:k=(i+j)/2:=by omega
     exact hx
   |false=>
    have hx:=of_decide_eq_false hx
    refine ih _ _ (by omega) (by omega) (by omega) h1 fun k hk hkl=> ?_
    rcases Nat.lt_or_ge ((i+j)/2) k with h9|h9
    ·have:=hmono _ k h9 hkl
     omega
    ·obtain rfl:k=(i+j)/2:=by omega
     exact hx
  ·obtain rfl:i=j:=by omega
   rw[decide_eq_false (Nat.lt_irrefl _)]
   exact⟨hj,h1,h2⟩
theorem found_iffu {xs:List Int} {t:Int} (hs:xs.Pairwise (· < ·)):foundBu xs t=true↔t∈xs:=by
 obtain⟨h0,h1,h2⟩:=bsN_specu (t:=t) hs (xs.length+1) 0 xs.length (Nat.zero_le _) (Nat.le_refl _) (by omega) (fun k hk=>by omega) (fun k hk hkl=>by omega)
 change bsPu xs t≤_ at h0
 change ∀k,k<bsPu xs t→_ at h1
 change ∀k,bsPu xs t≤k→_ at h2
 have ha: ∀k (h:k<xs.length),bsAu xs k=xs[k]:=fun k h=>by unfold bsAu;simp [h]
 unfold foundBu
 constructor
 ·intro h
  rcases Nat.lt_or_ge (bsPu xs t) xs.length with hl|hl
  ·rw[decide_eq_true (show(bsPu xs t:Int)<xs.length by omega)]at h
   cases he:bsAu xs (bsPu xs t)==t with
   |false=>rw[he]at h;cases h
   |true=>
    have he:=eq_of_beq he
    rw[←he,ha _ hl];exact List.getElem_mem hl
  ·rw[decide_eq_false (show ¬(bsPu xs t:Int)<xs.length by omega)]at h;cases h
 ·intro h
  obtain⟨k,hk,rfl⟩:=List.getElem_of_mem h
  have e:bsPu xs xs[k]=k:=by
   rcases Nat.lt_trichotomy (bsPu xs xs[k]) k with h9|h9|h9
   ·have hm:=List.pairwise_iff_getElem.1 hs _ k (by omega) hk h9
    have:=h2 _ (Nat.le_refl _) (show bsPu xs xs[k]<xs.length by omega)
    rw[ha _ (show bsPu xs xs[k]<xs.length by omega)]at this
    exact absurd hm this
   ·exact h9
   ·have:=h1 k h9
    rw[ha k hk]at this;exact absurd this (Int.lt_irrefl _)
  rw[e,decide_eq_true (show(k:Int)<xs.length by omega),ha k hk]
  simp
def lbad (a:Int) (l l2:List Int) (i:Int):Bool:=bif !((leafI a (bsAu l2 i)).2==0)then true else bif decide (i>0)then decide (bsAu l (IntKind.i64.wrap (i-1))≥bsAu l2 i)else false
def lgd (a:Int) (l l2:List Int) (i:Int):Bool:=inB (IntKind.i64.wrap (i-1)) l.length|| !(boolBeq (!((leafI a (bsAu l2 i)).2==0)) false&&boolBeq (decide (i>0)) true)
theorem lgd_ok {a:Int} {l l2:List Int} {j:Nat} (hj:j<l.length) (hm:(l.length:Int)≤9223372036854775807):lgd a l l2 j=true:=by
 unfold lgd
 rcases Nat.eq_zero_or_pos j with rfl|h0
 ·simp [boolBeq]
 ·rw[wrap64 (n:=(j:Int)-1) (by omega) (by omega),show((j:Int)-1)=((j-1:Nat):Int) by omega,inB_lt (show j-1<l.length by omega)];rfl
abbrev live400L:List (Nat×Dir):=[(0,.keep),(1,.keep),(4,.keep),(15,.keep),(16,.keep),(17,.keep)]
def vs400L (a:Int) (l:List Int) (e:Int) (l2:List Int) (n i:Int):List AV:=[.one (.int .i64 a),.one (.sl false U none l),.one (.int .i64 e),.one (.sl false U none l2),.one (.int .i64 n),.one (.int .i64 i)]
noncomputable abbrev lo400L (Λ:Lam AV) (K:AE→List AV→Option AV) (fuel:Nat) (vs:List AV):Option AV:=loopN (aexec tb Γ400 Λ ⟨40,0,[(0,live400L)]⟩ (loop1 F400).2 0) 40 0 live400L K fuel vs
theorem step400L (a:Int) (l:List Int) (e:Int) (l2:List Int) (n i:Int) (Λ:Lam AV) (K:AE→List AV→Option AV) (fuel:Nat):lo400L Λ K (fuel+1) (vs400L a l e l2 n i)=
 bif decide (i<n)then bif inB i l2.length then bif lgd a l l2 i then bif lbad a l l2 i then K .ret (vs400L a l 1 l2 n i)else lo400L Λ K fuel (vs400L a l e l2 n (IntKind.i64.wrap (i+1)))else none else none else K (.exit 0) (vs400L a l e l2 n i):=by kernel_rfl
noncomputable def Λ400L:Lam AV:=fun cur vs K=>
 match cur,vs with
 |0,[.one (.int .i64 a),.one (.sl false (.int .u64) none l),.one (.int .i64 e),.one (.sl false (.int .u64) none l2),.one (.int .i64 n),.one (.int .i64 0)]=>
  bif decide (n=l2.length)&&(decide (n≤9223372036854775807)&&decide (l.length=l2.length))then
   (bif decide (idxN (fun i=>lbad a l l2 i) (l2.length) 0<0)then K (.exit 0) (vs400L a l e l2 n n)else K .ret (vs400L a l 1 l2 n (idxN (fun i=>lbad a l l2 i) (l2.length) 0)))
  else none
 |_,_=>none
theorem loop400L:LoopP tb Γ400 Λ400L ⟨40,0,[(0,live400L)]⟩ (loop1 F400):=by
 intro vs K out h
 have hcur:(loop1 F400).1=0:=by kernel_rfl
 rw[hcur]at h⊢
 unfold Λ400L at h
 split at h
 ·rename_i a l e l2 n _
  cases hc:(decide (n=l2.length)&&(decide (n≤9223372036854775807)&&decide (l.length=l2.length)))with
  |false=>rw[hc]at h;cases h
  |true=>
   rw[hc]at h
   simp only[cond_true]at h
   rw[Bool.and_eq_true,Bool.and_eq_true]at hc
   obtain⟨h1,h2,hall⟩:=hc
   have h1:=of_decide_eq_true h1
   have hmax:=of_decide_eq_true h2
   subst h1
   refine findN (ok:=fun i=>inB i l2.length&&lgd a l l2 i) (ans:=fun i=>lbad a l l2 i) (F:=fun fuel i=>lo400L Λ400L K fuel (vs400L a l e l2 (l2.length) i)) (Kx:=fun i=>K (.exit 0) (vs400L a l e l2 (l2.length) i)) (Kr:=fun i=>K .ret (vs400L a l 1 l2 (l2.length) i)) hmax
    (fun fuel i=>(step400L a l e l2 (l2.length) i Λ400L K fuel).trans ?_) (fun j hj=> ?_) h
   ·cases inB i l2.length<;>rfl
   ·have hall:=of_decide_eq_true hall
    show(inB ((j:Nat):Int) l2.length&&lgd a l l2 j)=true
    rw[inB_lt hj,lgd_ok (by omega) (by omega)];rfl
 ·cases h
def lbadA (a:Int) (l:List Int):Bool:=anyN (lbad a l l) l.length
theorem r400L (a:Int) (l:List Int):run Γ400 Λ400L [(0,live400L)] F400 [.one (.int .i64 a),.one (.sl false U none l)] []=
 bif bif chkI a 1 != 0 then true else decide ((l.length:Int)>1024)then some (.one (.int .i64 1))else
 bif decide ((l.length:Int)=l.length)&&(decide ((l.length:Int)≤9223372036854775807)&&decide (l.length=l.length))then
  (bif decide (idxN (fun i=>lbad a l l i) l.length 0<0)then some (.one (.int .i64 0))else some (.one (.int .i64 1)))else none:=by kernel_rfl
def lokB (a:Int) (l:List Int):Bool:= !(bif (bif chkI a 1 != 0 then true else decide ((l.length:Int)>1024))then true else lbadA a l)
def lchkI (a:Int) (l:List Int):Int:=bif lokB a l then 0 else 1
def s400L:Sp:= .fn [.v I,.v (.sl U)] fun x=>(true,.one (.int .i64 (lchkI x.1 x.2)))
theorem g400L:GoodS Tryz.prog N400 s400L:=by
 refine good (.cons g366 (.cons g401 (.nil _))) H400 rfl (by kernel_rfl) Λ400L [(0,live400L)] (oneLoop (p0:=loop1 F400) (by kernel_rfl) loop400L) [.v I,.v (.sl U)] (by decide) [] _ fun x r hw e=> ?_
 obtain⟨a,l⟩:=x
 cases e
 refine(r400L a l).trans ?_
 unfold lchkI lokB
 cases hc:(bif chkI a 1 != 0 then true else decide ((l.length:Int)>1024))with
 |true=>rfl
 |false=>
  have hl:l.length≤1024:=by
   cases h1:chkI a 1 != 0 with
   |true=>rw[h1]at hc;cases hc
   |false=>rw[h1]at hc;have:=of_decide_eq_false hc;omega
  simp only[cond_false,decide_true,Bool.true_and,decide_eq_true (show(l.length:Int)≤9223372036854775807 by omega),cond_true,anyN_not,lbadA,Bool.not_not]
  cases anyN (fun i=>lbad a l l i) l.length<;>rfl
theorem lok_len {a:Int} {l:List Int} (h:lokB a l=true):l.length≤1024∧(chkI a 1 != 0)=false∧lbadA a l=false:=by
 unfold lokB at h
 cases h1:chkI a 1 != 0 with
 |true=>rw[h1]at h;cases h
 |false=>
  rw[h1]at h
  simp only[cond_false]at h
  cases h2:decide ((l.length:Int)>1024)with
  |true=>rw[h2]at h;cases h
  |false=>
   rw[h2]at h
   have h2:=of_decide_eq_false h2
   cases h3:lbadA a l with
   |true=>rw[h3]at h;cases h
   |false=>exact⟨by omega,rfl,rfl⟩
theorem r428n (xs:List Int):run (orc []) noL [] F428 [.one (.sl false U (some true) xs)] [.arr U]=some (.arr true U []):=by kernel_rfl
theorem r428 (xs:List Int):run (orc []) noL [] F428 [.one (.sl false U (some false) xs)] [.arr U]=
 bif decide ((([]:List Int).length+xs.length)*8≤140737488355328)then some (.arr true U ([]++xs))else none:=by kernel_rfl
def s428:Sp:= .fn [.v (.sl U)] fun xs=>(decide (xs.length≤1000000),.arr true U xs)
theorem ks428 (ws:List WK) (args:List AV) (hl:args.length≤F428.ntmps) {r:AV} (h:run (orc []) noL [] F428 args ws=some r):Good Tryz.prog N428 args r:=
 good_of mixed tbOk (.nil _) H428 (bd rfl) rfl rfl args hl ⟨F428.ntmps,0,[]⟩ rfl noL (noLoops (by kernel_rfl)) (kretW_spec ws) h
theorem g428:GoodS Tryz.prog N428 s428:=by
 refine .fn (callable_of H428 (bd rfl) (by kernel_rfl)) fun xs r hw h=> ?_
 have hs:xs.length≤1000000:=of_decide_eq_true (congrArg Prod.fst h)
 obtain rfl:AV.arr true U xs=r:=congrArg Prod.snd h
 refine good_nl (fun e=> ?_) ?_
 ·subst e
  exact ks428 [.arr U] _ (by show 1≤8;omega) (r428n [])
 ·refine ks428 [.arr U] _ (by show 1≤8;omega) ((r428 xs).trans ?_)
  rw[decide_eq_true (by simp only[List.length_nil,Nat.zero_add];omega)]
  simp only[cond_true,List.nil_append]
theorem lchk_ok {a:Int} {l:List Int} (h:(lchkI a l != 0)=false):lokB a l=true:=by
 unfold lchkI at h
 cases h1:lokB a l with
 |true=>rfl
 |false=>rw[h1]at h;cases h
theorem lok_at {a:Int} {l:List Int} (h:lokB a l=true) (k:Nat) (hk:k<l.length):((leafI a l[k]).2==0)=true∧(∀(h0:0<k),l[k-1]'(by omega)<l[k]):=by
 obtain⟨h1,h2,h3⟩:=lok_len h
 have h4:lbad a l l k=false:=by
  cases hb:lbad a l l k with
  |false=>rfl
  |true=>have:=anyN_iff.2 ⟨k,hk,hb⟩;unfold lbadA at h3;rw[this]at h3;cases h3
 unfold lbad at h4
 have e1:bsAu l (k:Int)=l[k]:=by unfold bsAu;simp [hk]
 rw[e1]at h4
 cases h5:(leafI a l[k]).2==0 with
 |false=>rw[h5]at h4;cases h4
 |true=>
  rw[h5]at h4
  refine⟨rfl,fun h0=> ?_⟩
  have e2:bsAu l (IntKind.i64.wrap ((k:Int)-1))=l[k-1]'(by omega):=by
   rw[wrap64 (n:=(k:Int)-1) (by omega) (by omega),show((k:Int)-1)=((k-1:Nat):Int) by omega]
   unfold bsAu;simp [show k-1<l.length by omega]
  rw[decide_eq_true (show(k:Int)>0 by omega),e2]at h4
  have h4:=of_decide_eq_false h4
  exact Int.not_le.1 h4
theorem lok_sorted {a:Int} {l:List Int} (h:lokB a l=true):l.Pairwise (· < ·):=by
 refine List.pairwise_iff_getElem.2 fun i j hi hj hij=> ?_
 have key: ∀(d i:Nat) (hi:i+(d+1)<l.length),l[i]'(by omega)<l[i+(d+1)]:=by
  intro d
  induction d with
  |zero=>intro i hi;exact(lok_at h (i+1) hi).2 (by omega)
  |succ d ih=>
   intro i hi
   exact Int.lt_trans (ih i (by omega)) ((lok_at h (i+(d+1+1)) hi).2 (by omega))
 have:=key (j-i-1) i (by omega)
 simpa [show i+(j-i-1+1)=j by omega]using this
theorem lok_leaf {a:Int} {l:List Int} (h:lokB a l=true): ∀x∈l,((leafI a x).2==0)=true:=by
 intro x hx
 obtain⟨k,hk,rfl⟩:=List.getElem_of_mem hx
 exact(lok_at h k hk).1
theorem bsPu_spec {xs:List Int} {t:Int} (hs:xs.Pairwise (· < ·)):bsPu xs t≤xs.length∧(∀k (hk:k<xs.length),k<bsPu xs t→xs[k]<t)∧(∀k (hk:k<xs.length),bsPu xs t≤k→t≤xs[k]):=by
 obtain⟨h0,h1,h2⟩:=bsN_specu (t:=t) hs (xs.length+1) 0 xs.length (Nat.zero_le _) (Nat.le_refl _) (by omega) (fun k hk=>by omega) (fun k hk hkl=>by omega)
 change bsPu xs t≤_ at h0
 change ∀k,k<bsPu xs t→_ at h1
 change ∀k,bsPu xs t≤k→_ at h2
 have ha: ∀k (h:k<xs.length),bsAu xs k=xs[k]:=fun k h=>by unfold bsAu;simp [h]
 exact⟨h0,fun k hk h=>by rw[←ha k hk];exact h1 k h,fun k hk h=>by rw[←ha k hk];exact Int.not_lt.1 (h2 k h hk)⟩
theorem cut_filter {xs:List Int} {lo hi:Int} (hs:xs.Pairwise (· < ·)): ∀ {p q:Nat},(∀k (hk:k<xs.length),k<p→xs[k]<lo)→(∀k (hk:k<xs.length),p≤k→lo≤xs[k])→
 (∀k (hk:k<xs.length),k<q→xs[k]≤hi)→(∀k (hk:k<xs.length),q≤k→hi<xs[k])→(xs.take q).drop p=xs.filter fun x=>decide (lo≤x)&&decide (x≤hi):=by
 induction xs with
 |nil=>intro p q _ _ _ _;simp
 |cons x xs ih=>
  intro p q h1 h2 h3 h4
  have hs':=(List.pairwise_cons.1 hs)
  have e1: ∀p':Nat,(∀k (hk:k<xs.length),k<p'→xs[k]<lo)=(∀k (hk:k<xs.length),k+1<p'+1→(x::xs)[k+1]'(by simp;omega)<lo):=fun p'=>by simp
  cases q with
  |zero=>
   rw[List.take_zero,List.drop_nil]
   have:(x::xs).filter (fun x=>decide (lo≤x)&&decide (x≤hi))=[]:=by
    rw[List.filter_eq_nil_iff]
    intro y hy
    obtain⟨k,hk,rfl⟩:=List.getElem_of_mem hy
    have:=h4 k hk (by omega)
    simp only[Bool.and_eq_true,decide_eq_true_eq];omega
   rw[this]
  |succ q=>
   have hx3:x≤hi:=h3 0 (by simp) (by omega)
   have t3: ∀k (hk:k<xs.length),k<q→xs[k]≤hi:=fun k hk h=>h3 (k+1) (by simp;omega) (by omega)
   have t4: ∀k (hk:k<xs.length),q≤k→hi<xs[k]:=fun k hk h=>h4 (k+1) (by simp;omega) (by omega)
   cases p with
   |zero=>
    have hx1:lo≤x:=h2 0 (by simp) (by omega)
    have:=ih hs'.2 (p:=0) (q:=q) (fun k hk h=>by omega) (fun k hk h=>h2 (k+1) (by simp;omega) (by omega)) t3 t4
    rw[List.filter_cons,if_pos (by simp only[Bool.and_eq_true,decide_eq_true_eq];exact⟨hx1,hx3⟩),←this];rfl
   |succ p=>
    have hx1:x<lo:=h1 0 (by simp) (by omega)
    have:=ih hs'.2 (p:=p) (q:=q) (fun k hk h=>h1 (k+1) (by simp;omega) (by omega)) (fun k hk h=>h2 (k+1) (by simp;omega) (by omega)) t3 t4
    rw[List.filter_cons,if_neg (by simp only[Bool.and_eq_true,decide_eq_true_eq];omega),←this];rfl
def Γ414:Orc:=orc [(N368,s368),(N400,s400L),(N402,s402u),(N428,s428)]
def belowB (a:Int) (l:List Int) (n:Int):Bool:=bif (leavesI a n).2 != 0 then true else lchkI a l != 0
def rlu (l:List Int) (e:Int):AV:= .tup [(false,[.sl true U none l]),(false,[.int .i64 e])]
def belP (a:Int) (l:List Int) (n:Int):Int:=bsPu l (leavesI a n).1.1
def belQ (a:Int) (l:List Int) (n:Int):Int:=bsPu l (IntKind.u64.wrap ((leavesI a n).1.2 +1))
theorem r414 (a:Int) (l:List Int) (n:Int):run Γ414 noL [] F414 [.one (.int .i64 a),.one (.sl false U none l),.one (.int .u64 n)] [.sl true U,.id]=
 bif belowB a l n then some (rlu [] 1)else bif decide (l.length≤1000000)then bif decide (l.length≤1000000)then
  bif decide (0≤belP a l n)&&decide (belP a l n≤belQ a l n)&&decide (belQ a l n≤(l.length:Int))then
   bif decide (((l.take (belQ a l n).toNat).drop (belP a l n).toNat).length≤1000000)then some (rlu ((l.take (belQ a l n).toNat).drop (belP a l n).toNat) 0)else none
  else none else none else none:=by kernel_rfl
def belowL (a:Int) (l:List Int) (n:Int):List Int:=l.filter (within (leavesI a n).1)
theorem leaves_nat {h n:Int} (h0:0≤n) (hk:okN h.toNat n.toNat=true):leavesI h n=
 ((((n.toNat*2^(h.toNat-n.toNat.log2)-2^h.toNat:Nat):Int),((n.toNat*2^(h.toNat-n.toNat.log2)-2^h.toNat+2^(h.toNat-n.toNat.log2)-1:Nat):Int)),0):=by
 have hc:(chkI h n != 0)=false:=by rw[chk_nat h0,hk];rfl
 obtain⟨h1,h2,h3⟩:=chk_zero hc
 have h1:=highB_iff.1 h1
 obtain⟨p1,p2,p3⟩:=okN_pow hk
 have hp:=pow32 (h:=h.toNat) (by omega)
 have hp1:2^(h.toNat+1)=2*2^h.toNat:=by rw[Nat.pow_succ];omega
 unfold leavesI
 rw[hc,dep_nat h2]
 simp only[cond_false]
 have ed:h-(n.toNat.log2:Int)=((h.toNat-n.toNat.log2:Nat):Int):=by omega
 rw[ed]
 generalize hD:h.toNat-n.toNat.log2=d at*
 have hd0:=Nat.two_pow_pos d
 have e1:shlI n d=((n.toNat*2^d:Nat):Int):=by
  have:=shl_nat (a:=n.toNat) (k:=d) (by omega) (by omega)
  rw[←this];congr 1;omega
 have e2:shlI 1 h=((2^h.toNat:Nat):Int):=by
  have:=shl_nat (a:=1) (k:=h.toNat) (by omega) (by omega)
  rw[Nat.one_mul]at this
  rw[←this];congr 1;omega
 have e3:shlI 1 d=((2^d:Nat):Int):=by
  have hd:2^d≤2^32:=pow32 (by omega)
  have:=shl_nat (a:=1) (k:=d) (by omega) (by omega)
  rw[Nat.one_mul]at this
  exact this
 have hlow:lowI h n d=((n.toNat*2^d-2^h.toNat:Nat):Int):=by
  unfold lowI
  rw[e1,e2,wrapU (by omega) (by omega)];omega
 have htop:topI h n d=((n.toNat*2^d-2^h.toNat+2^d-1:Nat):Int):=by
  unfold topI
  rw[hlow,e3,wrapU (n:=_+_) (by omega) (by omega),wrapU (by omega) (by omega)];omega
 rw[hlow,htop]
theorem leaves_ok {h n:Int} (h0:0≤n) (he:((leavesI h n).2 != 0)=false):okN h.toNat n.toNat=true:=by
 cases hk:okN h.toNat n.toNat with
 |true=>rfl
 |false=>
  unfold leavesI at he
  rw[chk_nat h0,hk]at he
  cases he
theorem leaves_bd {a n:Int} (h0:0≤n) (he:((leavesI a n).2 != 0)=false):0≤(leavesI a n).1.1 ∧(leavesI a n).1.1 ≤(leavesI a n).1.2 ∧(leavesI a n).1.2 <4294967296:=by
 have hk:=leaves_ok h0 he
 obtain⟨p1,p2,p3⟩:=okN_pow hk
 obtain⟨q1,q2,q3,q4⟩:=okN_iff.1 hk
 have hp:=pow32 (h:=a.toNat) (by omega)
 have hp1:2^(a.toNat+1)=2*2^a.toNat:=by rw[Nat.pow_succ];omega
 have hd0:=Nat.two_pow_pos (a.toNat-n.toNat.log2)
 rw[leaves_nat h0 hk]
 generalize 2^(a.toNat-n.toNat.log2)=d at*
 refine⟨Int.natCast_nonneg _, ?_, ?_⟩
 ·show((_:Nat):Int)≤((_:Nat):Int);omega
 ·show((_:Nat):Int)<_;omega
def belowR (a:Int) (l:List Int) (n:Int):List Int×Int:=bif belowB a l n then([],1)else(belowL a l n,0)
def s414:Sp:= .fn [.v I,.v (.sl U),.v U] fun x=>(true,rlu (belowR x.1 x.2.1 x.2.2).1 (belowR x.1 x.2.1 x.2.2).2)
theorem g414:GoodS Tryz.prog N414 s414:=by
 refine good (.cons g368 (.cons g400L (.cons g402u (.cons g428 (.nil _))))) H414 rfl (by kernel_rfl) noL [] (noLoops (by kernel_rfl)) [.v I,.v (.sl U),.v U] (by decide) [.sl true U,.id] _ fun x r hw e=> ?_
 obtain⟨a,l,n⟩:=x
 cases e
 refine(r414 a l n).trans ?_
 unfold belowR
 cases hc:belowB a l n with
 |true=>rfl
 |false=>
  have h1:((leavesI a n).2 != 0)=false:=by
   unfold belowB at hc
   cases h:(leavesI a n).2 != 0 with
   |true=>rw[h]at hc;cases hc
   |false=>rfl
  have h2:lokB a l=true:=by
   unfold belowB at hc;rw[h1]at hc;exact lchk_ok hc
  have hl:=(lok_len h2).1
  have hs:=lok_sorted h2
  have h0:0≤n:=hw.2.2.1
  obtain⟨b1,b2,b3⟩:=leaves_bd h0 h1
  obtain⟨c0,c1,c2⟩:=bsPu_spec (t:=(leavesI a n).1.1) hs
  obtain⟨d0,d1,d2⟩:=bsPu_spec (t:=IntKind.u64.wrap ((leavesI a n).1.2 +1)) hs
  have ew:IntKind.u64.wrap ((leavesI a n).1.2 +1)=(leavesI a n).1.2 +1:=wrapU (by omega) (by omega)
  have hpq:bsPu l (leavesI a n).1.1 ≤bsPu l (IntKind.u64.wrap ((leavesI a n).1.2 +1)):=by
   rcases Nat.lt_or_ge (bsPu l (IntKind.u64.wrap ((leavesI a n).1.2 +1))) (bsPu l (leavesI a n).1.1)with h9|h9
   ·have x1:=c1 _ (by omega) h9
    have x2:=d2 _ (show bsPu l (IntKind.u64.wrap ((leavesI a n).1.2 +1))<l.length by omega) (Nat.le_refl _)
    have b4:(leavesI a n).1.2 ≤IntKind.u64.wrap ((leavesI a n).1.2 +1):=by rw[ew];omega
    exact absurd (Int.lt_of_le_of_lt (Int.le_trans (Int.le_trans b2 b4) x2) x1) (Int.lt_irrefl _)
   ·exact h9
  have ef:(l.take (belQ a l n).toNat).drop (belP a l n).toNat=belowL a l n:=by
   unfold belQ belP belowL
   rw[Int.toNat_natCast,Int.toNat_natCast,cut_filter (lo:=(leavesI a n).1.1) (hi:=(leavesI a n).1.2) hs c1 c2 (fun k hk h=>by have:=d1 k hk h;rw[ew]at this;omega) (fun k hk h=>by have:=d2 k hk h;rw[ew]at this;omega)]
   congr 1
   funext x
   unfold within
   cases decide ((leavesI a n).1.1 ≤x)<;>rfl
  rw[ef,decide_eq_true (show l.length≤1000000 by omega)]
  have g1:(decide (0≤belP a l n)&&decide (belP a l n≤belQ a l n)&&decide (belQ a l n≤(l.length:Int)))=true:=by
   unfold belP belQ
   rw[decide_eq_true (by omega),decide_eq_true (by omega),decide_eq_true (by omega)];rfl
  have g2:(belowL a l n).length≤1000000:=Nat.le_trans (List.length_filter_le _ _) (by omega)
  rw[g1,decide_eq_true g2];rfl
def Γ390:Orc:=orc [(N414,s414)]
theorem r390 (a:Int) (l:List Int) (n:Int):run Γ390 noL [] F390 [.one (.int .i64 a),.one (.sl false U none l),.one (.int .u64 n)] []=
 some (.tup [(false,[.bool (decide (((belowR a l n).1.length :Int)>0))]),(false,[.int .i64 (belowR a l n).2])]):=by kernel_rfl
def rbe (b:Bool) (e:Int):AV:= .tup [(false,[.bool b]),(false,[.int .i64 e])]
def s390:Sp:= .fn [.v I,.v (.sl U),.v U] fun x=>(true,rbe (decide (((belowR x.1 x.2.1 x.2.2).1.length :Int)>0)) (belowR x.1 x.2.1 x.2.2).2)
theorem g390:GoodS Tryz.prog N390 s390:=by
 refine good (.cons g414 (.nil _)) H390 rfl (by kernel_rfl) noL [] (noLoops (by kernel_rfl)) [.v I,.v (.sl U),.v U] (by decide) [] _ fun x r hw e=> ?_
 obtain⟨a,l,n⟩:=x
 cases e
 exact r390 a l n
def Γ415:Orc:=orc [(N414,s414),(N323,s323),(N361,s361)]
def endI (l:List Int):Int:=bsAu l (IntKind.i64.wrap ((l.length:Int)-1))
def downI (a:Int) (l:List Int) (n:Int):Int×Int:=
 bif (belowR a l n).2 != 0 then(0,(belowR a l n).2)else bif ((belowR a l n).1.length :Int)==0 then(0,4)else
 bif (bif (leafI a (bsAu (belowR a l n).1 0)).2 != 0 then true else(leafI a (endI (belowR a l n).1)).2 != 0)then(0,1)else meetI a (leafI a (bsAu (belowR a l n).1 0)).1 (leafI a (endI (belowR a l n).1)).1
theorem r415 (a:Int) (l:List Int) (n:Int):run Γ415 noL [] F415 [.one (.int .i64 a),.one (.sl false U none l),.one (.int .u64 n)] []=
 bif (belowR a l n).2 != 0 then some (ru2 0 (belowR a l n).2)else bif ((belowR a l n).1.length :Int)==0 then some (ru2 0 4)else
 bif inB 0 (belowR a l n).1.length then bif inB (IntKind.i64.wrap (((belowR a l n).1.length :Int)-1)) (belowR a l n).1.length then
  bif (bif (leafI a (bsAu (belowR a l n).1 0)).2 != 0 then true else(leafI a (endI (belowR a l n).1)).2 != 0)then some (ru2 0 1)else
   some (ru2 (meetI a (leafI a (bsAu (belowR a l n).1 0)).1 (leafI a (endI (belowR a l n).1)).1).1 (meetI a (leafI a (bsAu (belowR a l n).1 0)).1 (leafI a (endI (belowR a l n).1)).1).2)
  else none else none:=by kernel_rfl
def s415:Sp:= .fn [.v I,.v (.sl U),.v U] fun x=>(true,ru2 (downI x.1 x.2.1 x.2.2).1 (downI x.1 x.2.1 x.2.2).2)
theorem below_len {a:Int} {l:List Int} {n:Int}:(belowR a l n).1.length ≤1024:=by
 unfold belowR
 cases hc:belowB a l n with
 |true=>exact Nat.zero_le _
 |false=>
  have h2:lokB a l=true:=by
   unfold belowB at hc
   cases h:(leavesI a n).2 != 0 with
   |true=>rw[h]at hc;cases hc
   |false=>rw[h]at hc;exact lchk_ok hc
  exact Nat.le_trans (List.length_filter_le _ _) (lok_len h2).1
theorem g415:GoodS Tryz.prog N415 s415:=by
 refine good (.cons g414 (.cons g323 (.cons g361 (.nil _)))) H415 rfl (by kernel_rfl) noL [] (noLoops (by kernel_rfl)) [.v I,.v (.sl U),.v U] (by decide) [] _ fun x r hw e=> ?_
 obtain⟨a,l,n⟩:=x
 cases e
 refine(r415 a l n).trans ?_
 show _=some (ru2 (downI a l n).1 (downI a l n).2)
 unfold downI
 have hlen:=below_len (a:=a) (l:=l) (n:=n)
 generalize belowR a l n=b at*
 cases b.2 != 0 with
 |true=>rfl
 |false=>
  cases h0:((b.1.length :Int)==0)with
  |true=>rfl
  |false=>
   have h0: ¬(b.1.length :Int)=0:=by intro h;rw[h]at h0;cases h0
   have e1:inB 0 b.1.length =true:=inB_lt (j:=0) (by omega)
   have e2:inB (IntKind.i64.wrap ((b.1.length :Int)-1)) b.1.length =true:=by
    rw[wrap64 (n:=(b.1.length :Int)-1) (by omega) (by omega),show((b.1.length :Int)-1)=((b.1.length -1:Nat):Int) by omega]
    exact inB_lt (by omega)
   rw[e1,e2]
   cases (bif (leafI a (bsAu b.1 0)).2 != 0 then true else(leafI a (endI b.1)).2 != 0)<;>rfl
end Go.AM.Seat
