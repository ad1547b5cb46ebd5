import Derived.Test.YthnonmlhgafalaaGreatZSk1
import Derived.Test.YthnonmlhgafalaaGreatZM18
import Derived.Test.YthnonmlhgafalaaGreatZAmObj
set_option linter.unusedVariables false
set_option linter.unusedSimpArgs false
set_option maxRecDepth 100000
namespace Go.AM.Seat
open Go Go.AM Go.Proofs
def Γ85:Orc:=orc [(N53,s53)]
def out85 (b:Block.D):AV:= .tup [(true,enc Block true (partR b 3).1),(true,enc Block true (partR b 4).1)]
theorem r85 (b:Block.D):run Γ85 noL [] F85 (encA [.v Block] b) []=bif sameO (out85 b) [some (out85 b),some (out85 b)]then some (out85 b)else none:=by kernel_rfl
def s85:Sp:= .fn [.v Block] fun x=>(true,.tup [(true,enc Block true (partB x 3)),(true,enc Block true (partB x 4))])
theorem g85:GoodS Tryz.prog N85 s85:=by
 refine good (.cons g53 (.nil _)) H85 rfl (by kernel_rfl) noL [] (noLoops (by kernel_rfl)) [.v Block] (by decide) [] _ fun x r hw h=> ?_
 cases h
 refine(r85 x).trans ?_
 have h1:Same.eq (out85 x) (out85 x)=true:=same_self _
 rw[show sameO (out85 x) [some (out85 x),some (out85 x)]=true by simp [sameO,h1]]
 rfl
def tagB (k c:Block.D):Block.D:=mixB (xorB (partB k 4) c)
def Γ87:Orc:=orc [(N85,s85),(N86,s86),(N92,s92)]
theorem r87 (k c:Block.D):run Γ87 noL [] F87 (encA [.v Block,.v Block] (k,c)) []=some (encV Block (tagB k c)):=by kernel_rfl
def s87:Sp:= .fn [.v Block,.v Block] fun x=>(true,encV Block (tagB x.1 x.2))
theorem g87:GoodS Tryz.prog N87 s87:=by
 refine good (.cons g85 (.cons g86 (.cons g92 (.nil _)))) H87 rfl (by kernel_rfl) noL [] (noLoops (by kernel_rfl)) [.v Block,.v Block] (by decide) [] _ fun x r hw h=> ?_
 cases h
 exact r87 x.1 x.2
def wrapB (k b:Block.D):Sealed.D:=(xorB b (partB k 3),tagB k (xorB b (partB k 3)))
def Γ46:Orc:=orc [(N85,s85),(N86,s86),(N87,s87)]
theorem r46 (k b:Block.D):run Γ46 noL [] F46 (encA [.v Block,.v Block] (k,b)) []=some (encV Sealed (wrapB k b)):=by kernel_rfl
def s46:Sp:= .fn [.v Block,.v Block] fun x=>(true,encV Sealed (wrapB x.1 x.2))
theorem g46:GoodS Tryz.prog N46 s46:=by
 refine good (.cons g85 (.cons g86 (.cons g87 (.nil _)))) H46 rfl (by kernel_rfl) noL [] (noLoops (by kernel_rfl)) [.v Block,.v Block] (by decide) [] _ fun x r hw h=> ?_
 cases h
 exact r46 x.1 x.2
def Γ17:Orc:=orc [(N44,s44),(N45,s45),(N46,s46),(N47,s47)]
@[reducible] def V3:List AK:=[.v (.sl Term),.v Value,.v Value]
def wrapV (l:List Term.D) (k v:Value.D):Value.D×List Term.D×Int:=
 bif isV l [false,false] [k,v] != 0 then(zeroV,[],isV l [false,false] [k,v])else bif k.1 then madeV l (5,k.2.2.2.2,v.2.2.2.2)else(sealV (wrapB k.2.2.1 v.2.2.1),l,0)
theorem r17 (l:List Term.D) (k v:Value.D):run Γ17 noL [] F17 (encA V3 (l,k,v)) wVle=
 bif isV l [false,false] [k,v] != 0 then some (vle (zeroV,[],isV l [false,false] [k,v]))else
 bif k.1 then some (vle (madeV l (5,k.2.2.2.2,v.2.2.2.2)))else bif small24 l.length then some (vle (sealV (wrapB k.2.2.1 v.2.2.1),l,0))else none:=by kernel_rfl
theorem isGo_two (l:List Term.D) (a b:Bool) (v w:Value.D):isGo l [a,b] (vAt [v,w] 0) [v,w] 0=bif checkV l v != 0 then checkV l v else bif !(ownV l v==a)then 1 else
 bif checkV l w != 0 then checkV l w else bif !(ownV l w==b)then 1 else bif !(w.1==v.1)then 1 else 0:=by
 have e:vAt [v,w] 0=v:=rfl
 rw[e]
 simp only[isGo,List.getD_cons_zero,Nat.zero_add,List.getD_cons_succ,beq_self_eq_true,Bool.not_true,cond_false]
theorem isV_two {l:List Term.D} {a b:Bool} {v w:Value.D}:isV l [a,b] [v,w]=0↔checkV l v=0∧checkV l w=0∧ownV l v=a∧ownV l w=b∧w.1=v.1:=by
 unfold isV
 rw[isGo_two]
 rcases checkV_one l v with h1|h1<;>rcases checkV_one l w with h2|h2<;>rw[h1]<;>try rw[h2]
 all_goals
  cases h3: !(ownV l v==a)<;>cases h4: !(ownV l w==b)<;>cases h5: !(w.1==v.1)<;>simp at h3 h4 h5<;>simp [h3,h4,h5]
def s17:Sp:= .fn V3 fun x=>(true,vle (wrapV x.1 x.2.1 x.2.2))
theorem g17:GoodS Tryz.prog N17 s17:=by
 refine good (.cons g44 (.cons g45 (.cons g46 (.cons g47 (.nil _))))) H17 rfl (by kernel_rfl) noL [] (noLoops (by kernel_rfl)) V3 (by decide) wVle _ fun x r hw h=> ?_
 obtain⟨l,k,v⟩:=x
 cases h
 refine(r17 l k v).trans ?_
 simp only[wrapV]
 cases h0:isV l [false,false] [k,v] != 0 with
 |true=>rfl
 |false=>
  cases k.1 with
  |true=>rfl
  |false=>
   have hz:isV l [false,false] [k,v]=0:=by simpa using h0
   rw[small_of (checkL_small (checkV_zero.1 (isV_two.1 hz).1).1)];rfl
def ve (x:Value.D×Int):AV:= .tup [(true,enc Value true x.1),(false,[.int .i64 x.2])]
abbrev Un:Ty:= .unit
abbrev Es:=List (I.D×Un.D)
inductive Reach (l:List Term.D) (i:Int):Int→Prop
 |self:Reach l i i
 |part {x y:Int}:Reach l i x→y∈partsL (tAt l x)→Reach l i y
structure Q (l:List Term.D) (i:Int) (es:Es) (q:List Int):Prop where
 cov: ∀x,mhas (kt:=I) (vt:=Un) x es=true↔x∈q
 nd:q.Nodup
 rng: ∀x∈q,0≤x∧x≤i
 rch: ∀x∈q,Reach l i x
 mem:i∈q
theorem plain_sym {l:List Term.D} {v:Value.D} (h:checkV l v=0) (hs:v.1=true):v=symV v.2.2.2.2 ∧0≤v.2.2.2.2 ∧v.2.2.2.2 <l.length:=by
 obtain⟨s1,s2⟩:=sym_of h hs
 have h2:=(checkV_zero.1 h).2
 have hi:isSym l v=true:=by
  unfold isSym
  rw[hs,decide_eq_true s1,decide_eq_true s2];rfl
 unfold plainV at h2
 rw[hi]at h2
 exact⟨h2,s1,s2⟩
theorem madeV_len (l:List Term.D) (t:Term.D):(madeV l t).2.1.length ≤l.length+1:=by
 unfold madeV
 cases (makeL l t).2.2 != 0
 ·exact makeL_len l t
 ·simp
theorem check_sym {l:List Term.D} {i:Int} (h:GoodL l) (h0:0≤i) (h1:i<l.length):checkV l (symV i)=0:=by
 refine checkV_zero.2 ⟨checkL_iff.2 h, ?_⟩
 have:isSym l (symV i)=true:=by unfold isSym symV;simp [h0,h1]
 unfold plainV
 rw[this];rfl
theorem check_oct {l:List Term.D} (h:GoodL l) (b:Block.D):checkV l (octV b)=0:=checkV_zero.2 ⟨checkL_iff.2 h,rfl⟩
theorem madeV_cases (l:List Term.D) (t:Term.D):((madeV l t).2.2 ≠0∧madeV l t=(zeroV,[],(madeV l t).2.2))∨((makeL l t).2.2 =0∧madeV l t=(symV (makeL l t).1,(makeL l t).2.1,0)):=by
 unfold madeV
 cases h:(makeL l t).2.2 != 0 with
 |true=>exact .inl ⟨by simpa using h,rfl⟩
 |false=>exact .inr ⟨by simpa using h,rfl⟩
theorem madeV_ok {l:List Term.D} {t:Term.D} (h:(madeV l t).2.2 =0): ∃(i:Nat) (r:List Term.D),madeV l t=(symV i,l++r,0)∧GoodL l∧GoodL (l++r)∧(l++r)[i]? =some t∧mayB t l.length=true:=by
 rcases madeV_cases l t with⟨h1,_⟩|⟨h1,h2⟩
 ·exact absurd h h1
 ·obtain⟨g1,g2,i,g3,g4,g5,g6⟩:=makeL_ok h1
  rw[h2,g3]
  rcases g6 with⟨_,e⟩|⟨_,_,_,e⟩
  ·rw[e]at g4 g5⊢
   exact⟨i,[],by simp,g1,by simpa using g4,by simpa using g5,g2⟩
  ·rw[e]at g4 g5⊢
   exact⟨i,[t],rfl,g1,g4,g5,g2⟩
theorem madeV_may {l:List Term.D} {t:Term.D} (h:GoodL l) (hm:mayB t l.length=true) (hl:l.length<65536):(madeV l t).2.2 =0:=by
 unfold madeV;rw[makeL_may h hm hl];rfl
theorem partBad_false {l:List Term.D} {v:Value.D} {i:Int}:partBad l v i=false↔checkV l v=0∧ownV l v=false∧0≤i∧i≤2:=by
 unfold partBad
 cases h:isV l [false] [v] != 0 with
 |true=>
  have: ¬isV l [false] [v]=0:=by simpa using h
  rw[isV_one]at this
  simp only[cond_true]
  exact⟨fun h=>(by cases h),fun h=>absurd ⟨h.1,h.2.1⟩ this⟩
 |false=>
  have:isV l [false] [v]=0:=by simpa using h
  obtain⟨h1,h2⟩:=isV_one.1 this
  simp only[cond_false,h1,h2]
  cases h3:decide (i<0)<;>simp at h3<;>simp<;>omega
theorem partV_may {l:List Term.D} {v:Value.D} {i:Int} (hl:l.length<65536) (hc:checkV l v=0) (ho:ownV l v=false) (h0:0≤i) (h2:i≤2):(partV l v i).2.2 =0:=by
 unfold partV
 rw[partBad_false.2 ⟨hc,ho,h0,h2⟩]
 have hG:=checkL_iff.1 (checkV_zero.1 hc).1
 cases hv:v.1 with
 |true=>
  obtain⟨_,s1,s2⟩:=plain_sym hc hv
  simp only[cond_false,cond_true]
  rw[wrap64 (by omega) (by omega)]
  exact madeV_may hG (mayB_part (by omega) s1 s2) hl
 |false=>
  simp only[cond_false]
  unfold partR
  rw[decide_eq_false (by omega),decide_eq_false (by omega)]
  rfl
theorem same_self2 (x:AV×List AV):Same.eq x x=true:= @decide_eq_true _ (Classical.propDecidable _) rfl
theorem sameO_rep2 (x:AV×List AV): ∀(n:Nat),sameO x (List.replicate n (some x))=true
 |0=>rfl
 |n+1=>by
  show(Same.eq x x&&sameO x (List.replicate n (some x)))=true
  rw[same_self2,sameO_rep2 x n];rfl
theorem allSame_rep2 (x:AV×List AV) (n:Nat):allSame (List.replicate (n+1) (some x))=some x:=by
 show(bif sameO x (List.replicate n (some x))then some x else none)=some x
 rw[sameO_rep2];rfl
abbrev WS:=Value.D×List Term.D×Int
def wk (x:WS):AV:= .own (.sl false Term none x.2.1 ::(enc Value true x.1++[.int .i64 x.2.2]))
def wkT (x:WS):AV:= .own (.sl true Term none x.2.1 ::(enc Value true x.1++[.int .i64 x.2.2]))
def unit2 (x:WS):Option (AV×List AV):=some (.tup [],[wk x])
def stepW (x:WS) (i:Int):WS:=bif x.2.2 ==0 then partV x.2.1 x.1 i else x
def vlf (x:WS):AV:= .tup [(true,enc Value true x.1),(false,[.sl false Term none x.2.1]),(false,[.int .i64 x.2.2])]
abbrev wVlf:List WK:=[.id,.sl false Term,.id]
theorem r22f (l:List Term.D) (v:Value.D) (i:Int):run Γ22 noL [] F22 (encA P3 (l,v,i)) wVlf=
 bif partBad l v i then some (vlf (zeroV,[],1))else
 bif v.1 then some (vlf (madeV l (IntKind.i64.wrap (2+i),v.2.2.2.2,0)))else bif small24 l.length then some (vlf (octV (partR v.2.2.1 i).1,l,(partR v.2.2.1 i).2))else none:=by kernel_rfl
def s22f:Sp:= .fn P3 fun x=>(true,vlf (partV x.1 x.2.1 x.2.2))
theorem g22f:GoodS Tryz.prog N22 s22f:=by
 refine good (.cons g44 (.cons g45 (.cons g47 (.cons g53 (.nil _))))) H22 rfl (by kernel_rfl) noL [] (noLoops (by kernel_rfl)) P3 (by decide) wVlf _ fun x r hw h=> ?_
 obtain⟨l,v,i⟩:=x
 cases h
 refine(r22f l v i).trans ?_
 simp only[partV]
 cases h0:partBad l v i with
 |true=>rfl
 |false=>
  cases v.1 with
  |true=>rfl
  |false=>
   unfold partBad at h0
   cases h1:isV l [false] [v] != 0 with
   |true=>rw[h1]at h0;cases h0
   |false=>
    have hz:isV l [false] [v]=0:=by simpa using h1
    rw[small_of (checkL_small (checkV_zero.1 (isV_one.1 hz).1).1)];rfl
theorem r353 (l:List Term.D) (v:Value.D) (e i:Int):runIO (orc [(N22,s22f)]) noL2 1 [] F353 [.one (.ptr 32 0),.one (.int .i64 i)] [wk (v,l,e)] 1 []=
 bif e==0 then unit2 (partV l v i)else unit2 (v,l,e):=by kernel_rfl
theorem r354 (l:List Term.D) (v:Value.D) (e:Int):runIO (orc []) noL2 1 [] F354 [.one (.ptr 23 0)] [wk (v,l,e)] 1 [.id,.sl false Term,.id]=
 bif e != 0 then allSame (List.replicate 20 (some (vlf (zeroV,[],e),[wk (v,l,e)])))else allSame (List.replicate 35 (some (vlf (v,l,0),[wk (v,l,e)]))):=by kernel_rfl
def gd51 (l:List Term.D) (v:Value.D):Bool:=inB v.2.2.2.2 l.length|| !((boolBeq (checkV l v==0) true&&boolBeq v.2.1 false)&&boolBeq v.1 true)
def b51 (l:List Term.D) (v:Value.D):Bool:=bif checkV l v==0 then bif v.2.1 then true else bif v.1 then(tAt l v.2.2.2.2).1==5 else false else false
theorem r47nf (xs:List Term.D):run (orc []) noL [] F47 [.one (.sl false Term (some true) xs)] [.sl true Term]=some (.one (.sl true Term none [])):=by kernel_rfl
theorem r47f (xs:List Term.D):run (orc []) noL [] F47 [.one (.sl false Term (some false) xs)] [.sl true Term]=
 bif decide ((([]:List Term.D).length+xs.length)*24≤140737488355328)then some (.one (.sl true Term none ([]++xs)))else none:=by kernel_rfl
def s47f:Sp:= .fn [.v (.sl Term)] fun xs=>(small24 xs.length,.one (.sl true Term none xs))
theorem g47f:GoodS Tryz.prog N47 s47f:=by
 refine .fn (callable_of H47 (bd rfl) (by kernel_rfl)) fun xs r hw h=> ?_
 have hs:small24 xs.length=true:=congrArg Prod.fst h
 obtain rfl:AV.one (.sl true Term none xs)=r:=congrArg Prod.snd h
 refine good_nl (fun hx=> ?_) ?_
 ·subst hx
  exact ks47 [.sl true Term] _ (by show 1≤_;decide) (r47nf [])
 ·refine ks47 [.sl true Term] _ (by show 1≤_;decide) ?_
  rw[r47f]
  have:decide ((([]:List Term.D).length+xs.length)*24≤140737488355328)=true:=by
   have:=of_decide_eq_true hs
   exact decide_eq_true (by simpa using this)
  rw[this];rfl
theorem r351 (l:List Term.D) (v:Value.D):runIO (orc [(N19,s19),(N47,s47f)]) noL2 0 [] F351 (encA [.v (.sl Term),.v Value] (l,v)) [] 0 []=
 bif gd51 l v then bif b51 l v then bif small24 l.length then some (.one (.ptr 0 0),[wkT (v,l,1)])else none else bif small24 l.length then some (.one (.ptr 0 0),[wkT (v,l,checkV l v)])else none else none:=by kernel_rfl
def unW:AV→Option WS
 | .own [.sl false (.pair (.int .i64) (.pair (.int .i64) (.int .i64))) none l,.bool a,.bool b,.int .u64 c,.int .u64 d,.int .u64 e,.int .u64 f,.int .u64 g,.int .u64 h,.int .i64 t,.int .i64 er]=>some ((a,b,(c,d),((e,f),(g,h)),t),l,er)
 |_=>none
theorem unW_eq {a:AV} {x:WS} (h:unW a=some x):a=wk x:=by
 unfold unW at h
 split at h
 ·cases h;rfl
 ·cases h
def unWT:AV→Option WS
 | .own [.sl true (.pair (.int .i64) (.pair (.int .i64) (.int .i64))) none l,.bool a,.bool b,.int .u64 c,.int .u64 d,.int .u64 e,.int .u64 f,.int .u64 g,.int .u64 h,.int .i64 t,.int .i64 er]=>some ((a,b,(c,d),((e,f),(g,h)),t),l,er)
 |_=>none
theorem unWT_eq {a:AV} {x:WS} (h:unWT a=some x):a=wkT x:=by
 unfold unWT at h
 split at h
 ·cases h;rfl
 ·cases h
def unV:AV→Option Value.D
 | .agg [.bool a,.bool b,.int .u64 c,.int .u64 d,.int .u64 e,.int .u64 f,.int .u64 g,.int .u64 h,.int .i64 t]=>some (a,b,(c,d),((e,f),(g,h)),t)
 |_=>none
theorem unV_eq {a:AV} {v:Value.D} (h:unV a=some v):a=encV Value v:=by
 unfold unV at h
 split at h
 ·cases h;rfl
 ·cases h
def s353:Sp:= .io fun a p gs=>match a,p,gs with
 |[.one (.ptr 0 0),.one (.int .i64 i)],1,[g]=>(match unW g with
  |some x=>some (true,.tup [],[wk (stepW x i)])
  |none=>none)
 |_,_,_=>none
theorem g353:GoodS Tryz.prog N353 s353:=by
 refine GoodS.io (callable_of H353 (bd rfl) (by kernel_rfl)) fun a p gs r gs' hw1 hw2 h=> ?_
 clear hw1 hw2
 split at h
 ·rename_i i g
  split at h
  ·rename_i x hx
   obtain rfl:=unW_eq hx
   cases h
   obtain⟨v,l,e⟩:=x
   refine goodIO1 (.cons g22f (.nil _)) H353 rfl noL2 1 [] (noLoops2 (by kernel_rfl)) [.one (.ptr 0 0),.one (.int .i64 i)] [wk (v,l,e)] 1 (ys:=[.one (.ptr 32 0),.one (.int .i64 i)]) (hs:=[wk (v,l,e)]) rfl rfl rfl (Nat.le_refl 1) (by show 2≤_;decide) (Nat.le_refl 1) [] ((r353 l v e i).trans ?_)
   unfold stepW
   cases h0:e==0 with
   |true=>simp only[h0];rfl
   |false=>simp only[h0];rfl
  ·cases h
 ·cases h
def endW (x:WS):WS:=bif x.2.2 != 0 then(zeroV,[],x.2.2)else(x.1,x.2.1,0)
def s354:Sp:= .io fun a p gs=>match a,p,gs with
 |[.one (.ptr 0 0)],1,[g]=>(match unW g with
  |some x=>some (true,vlf (endW x),[wk x])
  |none=>none)
 |_,_,_=>none
theorem g354:GoodS Tryz.prog N354 s354:=by
 refine GoodS.io (callable_of H354 (bd rfl) (by kernel_rfl)) fun a p gs r gs' hw1 hw2 h=> ?_
 clear hw1 hw2
 split at h
 ·rename_i g
  split at h
  ·rename_i x hx
   obtain rfl:=unW_eq hx
   cases h
   obtain⟨v,l,e⟩:=x
   refine goodIO1 (.nil _) H354 rfl noL2 1 [] (noLoops2 (by kernel_rfl)) [.one (.ptr 0 0)] [wk (v,l,e)] 1 (ys:=[.one (.ptr 23 0)]) (hs:=[wk (v,l,e)]) rfl rfl rfl (Nat.le_refl 1) (by show 1≤_;decide) (Nat.le_refl 1) [.id,.sl false Term,.id] ((r354 l v e).trans ?_)
   unfold endW
   cases h0:e != 0 with
   |true=>simp only[h0];exact allSame_rep2 _ 19
   |false=>simp only[h0];exact allSame_rep2 _ 34
  ·cases h
 ·cases h
def startE (l:List Term.D) (v:Value.D):Int:=bif b51 l v then 1 else checkV l v
def startW (l:List Term.D) (v:Value.D):WS:=(v,l,startE l v)
def s351:Sp:= .io fun a p gs=>match a,p,gs with
 |[.one (.sl false (.pair (.int .i64) (.pair (.int .i64) (.int .i64))) none l),g],0,[]=>(match unV g with
  |some v=>some (small24 l.length,.one (.ptr 0 0),[wkT (startW l v)])
  |none=>none)
 |_,_,_=>none
theorem sym_in {l:List Term.D} {v:Value.D} (h:checkV l v=0) (hv:v.1=true):inB v.2.2.2.2 l.length=true:=by
 have hs:isSym l v=true:=by
  have h1:=(checkV_zero.1 h).2
  cases hs:isSym l v with
  |true=>rfl
  |false=>
   have:(plainV l v).1=false:=by unfold plainV;rw[hs];cases v.2.1 <;>rfl
   rw[←h1,hv]at this;cases this
 unfold isSym at hs
 rw[hv]at hs
 simp only[cond_true]at hs
 unfold inB
 cases h2:decide (v.2.2.2.2 ≥0)with
 |false=>rw[h2]at hs;cases hs
 |true=>rw[h2]at hs;rw[show decide (v.2.2.2.2 <(l.length:Int))=true from hs];rfl
theorem gd51_true (l:List Term.D) (v:Value.D):gd51 l v=true:=by
 unfold gd51
 cases h1:checkV l v==0 with
 |false=>cases inB v.2.2.2.2 l.length<;>rfl
 |true=>
  cases h2:v.1 with
  |false=>cases inB v.2.2.2.2 l.length<;>cases v.2.1 <;>rfl
  |true=>rw[sym_in (eq_of_beq h1) h2];rfl
theorem g351:GoodS Tryz.prog N351 s351:=by
 refine GoodS.io (callable_of H351 (bd rfl) (by kernel_rfl)) fun a p gs r gs' hw1 hw2 h=> ?_
 clear hw1 hw2
 split at h
 ·rename_i l g
  split at h
  ·rename_i v hv
   obtain rfl:=unV_eq hv
   simp only[Option.some.injEq,Prod.mk.injEq]at h
   obtain⟨hs,rfl,rfl⟩:=h
   refine goodIO0 (.cons g19 (.cons g47f (.nil _))) H351 rfl noL2 0 [] (noLoops2 (by kernel_rfl)) (encA [.v (.sl Term),.v Value] (l,v)) rfl (by show 2≤_;decide) [] ((r351 l v).trans ?_)
   rw[gd51_true,hs]
   unfold startW startE
   cases b51 l v<;>rfl
  ·cases h
 ·cases h
theorem upLoopR {ρ α:Type} {n:Nat} {F:Nat→α→Int→Option ρ} {G:Nat→α→Option ρ} (h1: ∀fuel a,F (fuel+1) a n=G n a)
 (h2: ∀a (j:Nat),j<n→(∃a',(∀fuel,F (fuel+1) a j=F fuel a' ((j+1:Nat):Int))∧G j a=G (j+1) a')∨(∀fuel,F (fuel+1) a j=G j a)):
 ∀(m j:Nat) (a:α) (out:ρ),j+m=n→G j a=some out→ ∃fuel,F fuel a j=some out:=by
 intro m
 induction m with
 |zero=>
  intro j a out hj h
  obtain rfl:j=n:=by omega
  exact⟨1,(h1 0 a).trans h⟩
 |succ m ih=>
  intro j a out hj h
  rcases h2 a j (by omega)with⟨a',g1,g2⟩|g
  ·obtain⟨fuel,hf⟩:=ih (j+1) a' out (by omega) (g2▸h)
   exact⟨fuel+1,(g1 fuel).trans hf⟩
  ·exact⟨1,(g 0).trans h⟩
def walkL:WS→List Int→WS
 |x,[]=>x
 |x,s::r=>walkL (stepW x s) r
def gW (x:WS):AV:= .gho (wk x).ov
def Γ385:Orc:=orc [(N311,s311),(N353,s353)]
abbrev live385:List (Nat×Dir):=[(0,.keep),(28,.keep),(29,.keep),(30,.keep),(38,.keep)]
def vs385 (l:List Int) (n i:Int) (x:WS):List AV:=[.one (.ptr 38 0),.one (.sl true I none l),.one (.int .i64 n),.one (.int .i64 i),gW x]
noncomputable abbrev lp385 (Λ:Lam (AV×List AV)) (K:AE→List AV→Option (AV×List AV)) (fuel:Nat) (vs:List AV):Option (AV×List AV):=loopN (aexec tb Γ385 Λ ⟨38,1,[(0,live385)]⟩ (loopK F385 0).2 0) 38 1 live385 K fuel vs
theorem step385 (l:List Int) (n i:Int) (x:WS) (Λ:Lam (AV×List AV)) (fuel:Nat) (K:AE→List AV→Option (AV×List AV)):lp385 Λ K (fuel+1) (vs385 l n i x)=
 bif decide (i<n)then bif inB i l.length then lp385 Λ K fuel (vs385 l n (IntKind.i64.wrap (i+1)) (stepW x (iAt l i)))else none else K (.exit 0) (vs385 l n i x):=by kernel_rfl
def Λ385:Lam (AV×List AV):=fun cur vs K=>
 match cur,vs with
 |0,[.one (.ptr 38 0),.one (.sl true (.int .i64) none l),.one (.int .i64 n),.one (.int .i64 0),.gho o]=>
  (match unW o.av with
  |some x=>bif decide (n=l.length)&&decide (n≤9223372036854775807)then K (.exit 0) (vs385 l n n (walkL x l))else none
  |none=>none)
 |_,_=>none
theorem walk_drop {x:WS} {l:List Int} {j:Nat} (h:j<l.length):walkL x (l.drop j)=walkL (stepW x (iAt l j)) (l.drop (j+1)):=by
 rw[List.drop_eq_getElem_cons h]
 simp [iAt,h,walkL]
theorem gW_eq {o:OV} {x:WS} (h:unW o.av=some x):AV.gho o=gW x:=by
 have:=unW_eq h
 unfold gW
 rw[←this]
 cases o<;>first|rfl|cases h
theorem loop385:LoopP tb Γ385 Λ385 ⟨38,1,[(0,live385)]⟩ (loopK F385 0):=by
 intro vs K out e
 have hcur:(loopK F385 0).1=0:=by kernel_rfl
 rw[hcur]at e⊢
 unfold Λ385 at e
 split at e
 ·rename_i l n o _
  split at e
  ·rename_i x hx
   cases hc:(decide (n=l.length)&&decide (n≤9223372036854775807))with
   |false=>rw[hc]at e;cases e
   |true=>
    rw[hc]at e
    simp only[cond_true]at e
    simp only[Bool.and_eq_true,decide_eq_true_eq]at hc
    obtain⟨rfl,hmax⟩:=hc
    rw[gW_eq hx]
    refine upLoopR (α:=WS) (n:=l.length) (F:=fun fuel x i=>lp385 Λ385 K fuel (vs385 l l.length i x)) (G:=fun j x=>K (.exit 0) (vs385 l l.length l.length (walkL x (l.drop j))))
     (fun fuel x=> ?_) (fun x j hj=> ?_) l.length 0 x out (by omega) e
    ·simp only[step385,nlt_dec,cond_false,List.drop_length,walkL]
    ·left
     refine⟨stepW x (iAt l j),fun fuel=> ?_,by rw[walk_drop hj]⟩
     simp only[step385,lt_dec hj,inB_lt hj,cond_true]
     rw[wrap64 (by omega) (by omega)];rfl
  ·cases e
 ·cases e
def pathW (x:WS) (h a b:Int):WS:=walkL (bif x.2.2 ==0 then(x.1,x.2.1,(pathI h a b).2)else x) (pathI h a b).1
def lenB (l:List Int):Bool:=decide ((l.length:Int)=l.length)&&decide ((l.length:Int)≤9223372036854775807)
theorem r385 (h a b:Int) (x:WS):runIO Γ385 Λ385 1 [(0,live385)] F385 [.one (.ptr 38 0),.one (.int .i64 h),.one (.int .u64 a),.one (.int .u64 b)] [wk x] 1 []=
 bif x.2.2 ==0 then bif lenB (pathI h a b).1 then unit2 (walkL (x.1,x.2.1,(pathI h a b).2) (pathI h a b).1)else none else bif lenB (pathI h a b).1 then unit2 (walkL x (pathI h a b).1)else none:=by kernel_rfl
theorem setG_len (b:Int) (n:Nat): ∀(m j:Nat) (l:List Int),(setG b n m j l).length=l.length:=by
 intro m
 induction m with
 |zero=>intro j l;rfl
 |succ m ih=>intro j l;rw[setG,ih];simp
theorem path_len (h a b:Int):(pathI h a b).1.length ≤64:=by
 unfold pathI
 cases hb:bothI h a b != 0 with
 |true=>exact Nat.zero_le _
 |false=>
  cases ha:aboveB a b with
  |false=>exact Nat.zero_le _
  |true=>
   show(setG b (pathN a b).toNat (pathN a b).toNat 0 (List.replicate (pathN a b).toNat 0)).length≤64
   rw[setG_len,List.length_replicate]
   have hc:(chkI h b != 0)=false:=by
    cases hc:chkI h b != 0 with
    |false=>rfl
    |true=>
     unfold bothI both at hb
     rw[hc]at hb
     cases h1:chkI h a != 0<;>rw[h1]at hb<;>exact absurd hb (by decide)
   obtain⟨c1,c2,c3⟩:=chk_zero hc
   have c4:=highB_iff.1 c1
   have c5:=lenI_nonneg a
   unfold pathN depI at*
   omega
theorem lenB_path (h a b:Int):lenB (pathI h a b).1=true:=lenMax (Nat.le_trans (path_len h a b) (by decide))
def s385:Sp:= .io fun a p gs=>match a,p,gs with
 |[.one (.ptr 0 0),.one (.int .i64 h),.one (.int .u64 a),.one (.int .u64 b)],1,[g]=>(match unW g with
  |some x=>some (true,.tup [],[wk (pathW x h a b)])
  |none=>none)
 |_,_,_=>none
theorem oneLoop2 {Γ:Orc} {Λ:Lam (AV×List AV)} {ms:Lay} {c:Code} {p0:Nat×Code} (h:loopsOf 0 c=[p0]) (h0:LoopP tb Γ Λ ms p0): ∀p∈loopsOf 0 c,LoopP tb Γ Λ ms p:=by
 rw[h];intro p hp;rw[List.mem_singleton.1 hp];exact h0
theorem g385:GoodS Tryz.prog N385 s385:=by
 refine GoodS.io (callable_of H385 (bd rfl) (by kernel_rfl)) fun a p gs r gs' hw1 hw2 h=> ?_
 clear hw1 hw2
 split at h
 ·rename_i h' a b g
  split at h
  ·rename_i x hx
   obtain rfl:=unW_eq hx
   cases h
   refine goodIO1 (.cons g311 (.cons g353 (.nil _))) H385 rfl Λ385 1 [(0,live385)] (oneLoop2 (p0:=loopK F385 0) (by kernel_rfl) loop385) [.one (.ptr 0 0),.one (.int .i64 h'),.one (.int .u64 a),.one (.int .u64 b)] [wk x] 1 (ys:=[.one (.ptr 38 0),.one (.int .i64 h'),.one (.int .u64 a),.one (.int .u64 b)]) (hs:=[wk x]) rfl rfl rfl (Nat.le_refl 1) (by show 4≤_;decide) (Nat.le_refl 1) [] ((r385 h' a b x).trans ?_)
   rw[lenB_path]
   unfold pathW
   cases x.2.2 ==0<;>rfl
  ·cases h
 ·cases h
def labelW (x:WS) (h:Int) (s:Subset.D):WS:=bif s.2 != 0 then pathW (stepW (pathW x h 1 s.1) 2) h s.1 s.2 else stepW (pathW x h 1 s.1) 2
theorem r352 (x:WS) (h:Int) (s:Subset.D):runIO (orc [(N385,s385),(N353,s353)]) noL2 1 [] F352 [.one (.ptr 23 0),.one (.int .i64 h),.agg [.int .u64 s.1,.int .u64 s.2]] [wk x] 1 []=
 bif s.2 != 0 then unit2 (pathW (stepW (pathW x h 1 s.1) 2) h s.1 s.2)else unit2 (stepW (pathW x h 1 s.1) 2):=by kernel_rfl
def s352:Sp:= .io fun a p gs=>match a,p,gs with
 |[.one (.ptr 0 0),.one (.int .i64 h),.agg [.int .u64 i,.int .u64 j]],1,[g]=>(match unW g with
  |some x=>some (true,.tup [],[wk (labelW x h (i,j))])
  |none=>none)
 |_,_,_=>none
theorem g352:GoodS Tryz.prog N352 s352:=by
 refine GoodS.io (callable_of H352 (bd rfl) (by kernel_rfl)) fun a p gs r gs' hw1 hw2 h=> ?_
 clear hw1 hw2
 split at h
 ·rename_i h' i j g
  split at h
  ·rename_i x hx
   obtain rfl:=unW_eq hx
   cases h
   refine goodIO1 (.cons g385 (.cons g353 (.nil _))) H352 rfl noL2 1 [] (noLoops2 (by kernel_rfl)) [.one (.ptr 0 0),.one (.int .i64 h'),.agg [.int .u64 i,.int .u64 j]] [wk x] 1 (ys:=[.one (.ptr 23 0),.one (.int .i64 h'),.agg [.int .u64 i,.int .u64 j]]) (hs:=[wk x]) rfl rfl rfl (Nat.le_refl 1) (by show 3≤_;decide) (Nat.le_refl 1) [] ((r352 x h' (i,j)).trans ?_)
   unfold labelW
   cases (i,j).2 != 0<;>rfl
  ·cases h
 ·cases h
theorem r377 (s:Int):run (orc []) noL [] F377 (encA [.v I] s) []=some (.one (.bool (oddB s))):=by kernel_rfl
def s377:Sp:= .fn [.v I] fun s=>(true,.one (.bool (oddB s)))
theorem g377:GoodS Tryz.prog N377 s377:=by
 refine good (.nil _) H377 rfl (by kernel_rfl) noL [] (noLoops (by kernel_rfl)) [.v I] (by decide) [] _ fun s r hw e=> ?_
 cases e
 exact r377 s
def clO:AV:= .one (.fn N377 [])
def isO (c:AV):Bool:=
 match c with
 | .one (.fn f [])=>Nat.beq f N377
 |_=>false
theorem isO_eq {c:AV} (h:isO c=true):c=clO:=by
 unfold isO at h
 split at h
 ·obtain rfl:=Nat.eq_of_beq_eq_true h;rfl
 ·cases h
abbrev liveO:List (Nat×Dir):=[(0,.keep),(1,.keep),(4,.keep),(7,.keep),(8,.keep)]
def vsO (l:List Int) (c:AV) (r n i:Int):List AV:=[.one (.sl false I none l),c,.one (.int .i64 r),.one (.int .i64 n),.one (.int .i64 i)]
def ΓO:Orc:=orc [(N377,s377)]
noncomputable abbrev lpO (Λ:Lam AV) (K:AE→List AV→Option AV) (fuel:Nat) (vs:List AV):Option AV:=loopN (aexec tb ΓO Λ ⟨19,0,[(0,liveO)]⟩ (loopK F101 0).2 0) 19 0 liveO K fuel vs
theorem stepO (l:List Int) (r n i:Int) (Λ:Lam AV) (fuel:Nat) (K:AE→List AV→Option AV):lpO Λ K (fuel+1) (vsO l clO r n i)=
 bif decide (i<n)then bif inB i l.length then bif oddB (iAt l i)then K .ret (vsO l clO i n i)else lpO Λ K fuel (vsO l clO r n (IntKind.i64.wrap (i+1)))else none else K (.exit 0) (vsO l clO r n i):=by kernel_rfl
def ΛO:Lam AV:=fun cur vs K=>
 match cur,vs with
 |0,[.one (.sl false (.int .i64) none l),c,.one (.int .i64 r),.one (.int .i64 n),.one (.int .i64 0)]=>
  bif isO c&&decide (n=l.length)&&decide (n≤9223372036854775807)then
   bif decide (idxFrom oddB l 0<0)then K (.exit 0) (vsO l c r n n)else K .ret (vsO l c (idxFrom oddB l 0) n (idxFrom oddB l 0))
  else none
 |_,_=>none
theorem iAt_cons {l:List Int} {j:Nat} (h:j<l.length):l.drop j=iAt l j::l.drop (j+1):=by
 rw[List.drop_eq_getElem_cons h]
 simp [iAt,h]
theorem loopO:LoopP tb ΓO ΛO ⟨19,0,[(0,liveO)]⟩ (loopK F101 0):=by
 intro vs K out e
 have hcur:(loopK F101 0).1=0:=by kernel_rfl
 rw[hcur]at e⊢
 unfold ΛO at e
 split at e
 ·rename_i l c r n _
  cases hc:(isO c&&decide (n=l.length)&&decide (n≤9223372036854775807))with
  |false=>rw[hc]at e;cases e
  |true=>
   rw[hc]at e
   simp only[cond_true]at e
   simp only[Bool.and_eq_true,decide_eq_true_eq]at hc
   obtain⟨⟨hc,rfl⟩,hmax⟩:=hc
   obtain rfl:=isO_eq hc
   refine upLoop (α:=Unit) (n:=l.length) (F:=fun fuel _ i=>lpO ΛO K fuel (vsO l clO r l.length i))
    (G:=fun j _=>bif decide (idxFrom oddB (l.drop j) j<0)then K (.exit 0) (vsO l clO r l.length l.length)else K .ret (vsO l clO (idxFrom oddB (l.drop j) j) l.length (idxFrom oddB (l.drop j) j)))
    (fun fuel _=> ?_) (fun _ j hj=> ?_) l.length 0 () out (by omega) e
   ·simp only[stepO,nlt_dec,cond_false,List.drop_length,idxFrom];rfl
   ·cases hx:oddB (iAt l j)with
    |true=>
     right;intro fuel
     have h0:decide ((j:Int)<0)=false:=by simp
     simp only[stepO,lt_dec hj,inB_lt hj,hx,cond_true,cond_false,iAt_cons hj,idxFrom,h0]
    |false=>
     left;refine⟨(),fun fuel=> ?_, ?_⟩
     ·simp only[stepO,lt_dec hj,inB_lt hj,hx,cond_true,cond_false]
      rw[wrap64 (by omega) (by omega)];rfl
     ·simp only[iAt_cons hj,idxFrom,hx,cond_false];rfl
 ·cases e
def rO (l:List Int):Option AV:=
 bif isO clO&&decide ((l.length:Int)=l.length)&&decide ((l.length:Int)≤9223372036854775807)then bif decide (idxFrom oddB l 0<0)then some (.one (.int .i64 (-1)))else some (.one (.int .i64 (idxFrom oddB l 0)))else none
theorem r101o (l:List Int):run ΓO ΛO [(0,liveO)] F101 [.one (.sl false I none l),clO] []=rO l:=by kernel_rfl
def s101o:Sp:= .fn [.v (.sl I),.raw] fun x=>(isO x.2,.one (.int .i64 (idxFrom oddB x.1 0)))
theorem g101o:GoodS Tryz.prog N101 s101o:=by
 refine good (.cons g377 (.nil _)) H101 rfl (by kernel_rfl) ΛO [(0,liveO)] (oneLoop (p0:=loopK F101 0) (by kernel_rfl) loopO) [.v (.sl I),.raw] (by decide) [] _ fun x r hw h=> ?_
 obtain⟨l,c⟩:=x
 simp only[Prod.mk.injEq]at h
 obtain⟨h1,rfl⟩:=h
 obtain rfl:=isO_eq h1
 refine(r101o l).trans ?_
 unfold rO
 rw[show(isO clO&&decide ((l.length:Int)=l.length)&&decide ((l.length:Int)≤9223372036854775807))=true by rw[h1,Bool.true_and];exact lenMax hw.1.1]
 rcases idxFrom_ge oddB l 0 with h|h
 ·rw[h];rfl
 ·have:decide (idxFrom oddB l 0<0)=false:=by simpa using h
  rw[this];rfl
theorem r67o (l:List Int):run (orc [(N101,s101o)]) noL [] F67 [.one (.sl false I none l),clO] []=some (.one (.bool (decide (idxFrom oddB l 0≥0)))):=by kernel_rfl
def s67o:Sp:= .fn [.v (.sl I),.raw] fun x=>(isO x.2,.one (.bool (x.1.any oddB)))
theorem g67o:GoodS Tryz.prog N67 s67o:=by
 refine good (.cons g101o (.nil _)) H67 rfl (by kernel_rfl) noL [] (noLoops (by kernel_rfl)) [.v (.sl I),.raw] (by decide) [] _ fun x r hw h=> ?_
 obtain⟨l,c⟩:=x
 simp only[Prod.mk.injEq]at h
 obtain⟨h1,rfl⟩:=h
 obtain rfl:=isO_eq h1
 refine(r67o l).trans ?_
 rw[idx_any _ _ _ (Int.le_refl 0)]
def gWT (x:WS):AV:= .gho (wkT x).ov
theorem gWT_eq {o:OV} {x:WS} (h:unWT o.av=some x):AV.gho o=gWT x:=by
 have:=unWT_eq h
 unfold gWT
 rw[←this]
 cases o<;>first|rfl|cases h
def Γ346:Orc:=orc [(N351,s351),(N67,s67o),(N353,s353),(N354,s354)]
abbrev live346:List (Nat×Dir):=[(6,.keep),(9,.keep),(32,.keep),(33,.keep),(34,.keep),(47,.keep)]
def vs346 (l:List Int) (n i:Int) (x:WS):List AV:=[.own (enc Value false zeroV),.one (.ptr 47 0),.one (.sl false I none l),.one (.int .i64 n),.one (.int .i64 i),gWT x]
noncomputable abbrev lp346 (Λ:Lam AV) (K:AE→List AV→Option AV) (fuel:Nat) (vs:List AV):Option AV:=loopN (aexec tb Γ346 Λ ⟨47,1,[(0,live346)]⟩ (loopK F346 0).2 0) 47 1 live346 K fuel vs
theorem step346 (l:List Int) (n i:Int) (x:WS) (Λ:Lam AV) (fuel:Nat) (K:AE→List AV→Option AV):lp346 Λ K (fuel+1) (vs346 l n i x)=
 bif decide (i<n)then bif inB i l.length then lp346 Λ K fuel (vs346 l n (IntKind.i64.wrap (i+1)) (stepW x (iAt l i)))else none else K (.exit 0) (vs346 l n i x):=by kernel_rfl
def Λ346:Lam AV:=fun cur vs K=>
 match cur,vs with
 |0,[.own [.bool false,.bool false,.int .u64 0,.int .u64 0,.int .u64 0,.int .u64 0,.int .u64 0,.int .u64 0,.int .i64 0],.one (.ptr 47 0),.one (.sl false (.int .i64) none l),.one (.int .i64 n),.one (.int .i64 0),.gho o]=>
  (match unWT o.av with
  |some x=>bif decide (n=l.length)&&decide (n≤9223372036854775807)then K (.exit 0) (vs346 l n n (walkL x l))else none
  |none=>none)
 |_,_=>none
theorem loop346:LoopP tb Γ346 Λ346 ⟨47,1,[(0,live346)]⟩ (loopK F346 0):=by
 intro vs K out e
 have hcur:(loopK F346 0).1=0:=by kernel_rfl
 rw[hcur]at e⊢
 unfold Λ346 at e
 split at e
 ·rename_i l n o _
  split at e
  ·rename_i x hx
   cases hc:(decide (n=l.length)&&decide (n≤9223372036854775807))with
   |false=>rw[hc]at e;cases e
   |true=>
    rw[hc]at e
    simp only[cond_true]at e
    simp only[Bool.and_eq_true,decide_eq_true_eq]at hc
    obtain⟨rfl,hmax⟩:=hc
    rw[gWT_eq hx]
    refine upLoopR (α:=WS) (n:=l.length) (F:=fun fuel x i=>lp346 Λ346 K fuel (vs346 l l.length i x)) (G:=fun j x=>K (.exit 0) (vs346 l l.length l.length (walkL x (l.drop j))))
     (fun fuel x=> ?_) (fun x j hj=> ?_) l.length 0 x out (by omega) e
    ·simp only[step346,nlt_dec,cond_false,List.drop_length,walkL]
    ·left
     refine⟨stepW x (iAt l j),fun fuel=> ?_,by rw[walk_drop hj]⟩
     simp only[step346,lt_dec hj,inB_lt hj,cond_true]
     rw[wrap64 (by omega) (by omega)];rfl
  ·cases e
 ·cases e
@[reducible] def W3:List AK:=[.v (.sl Term),.v Value,.v (.sl I)]
def noWalk (l:List Term.D) (v:Value.D) (sd:List Int):Bool:=bif bif startE l v != 0 then true else decide ((sd.length:Int)>32)then true else sd.any oddB
def walkV (l:List Term.D) (v:Value.D) (sd:List Int):WS:=bif noWalk l v sd then(zeroV,[],1)else endW (walkL (startW l v) sd)
theorem r346 (l:List Term.D) (v:Value.D) (sd:List Int):runG Γ346 Λ346 1 [(0,live346)] F346 (encA W3 (l,v,sd)) wVle=
 bif small24 l.length then bif noWalk l v sd then some (vle (zeroV,[],1))else bif lenB sd then some (vle (endW (walkL (startW l v) sd)))else none else none:=by kernel_rfl
def s346:Sp:= .fn W3 fun x=>(small24 x.1.length,vle (walkV x.1 x.2.1 x.2.2))
theorem Γ346ok:OrcOk Tryz.prog Γ346:= .cons g351 (.cons g67o (.cons g353 (.cons g354 (.nil _))))
theorem g346:GoodS Tryz.prog N346 s346:=by
 refine goodG Γ346ok H346 rfl (by kernel_rfl) Λ346 1 [(0,live346)] (oneLoop (p0:=loopK F346 0) (by kernel_rfl) loop346) W3 (by decide) wVle _ fun x r hw e=> ?_
 obtain⟨l,v,sd⟩:=x
 have e1:=congrArg Prod.fst e
 have e2:=congrArg Prod.snd e
 simp only at e1 e2
 refine(r346 l v sd).trans ?_
 rw[e1,←e2,show lenB sd=true from lenMax hw.2.2.1]
 unfold walkV
 cases noWalk l v sd<;>rfl
@[reducible] def L5:List AK:=[.v (.sl Term),.v I,.v I,.v Value,.v Subset]
def ΓKe:Orc:=orc [(N351,s351),(N318,s318),(N352,s352),(N353,s353),(N354,s354)]
def noKey (l:List Term.D) (h k:Int) (v:Value.D) (s:Subset.D):Bool:=bif bif startE l v != 0 then true else(mayI h k s).2 != 0 then true else !(mayI h k s).1
def keyV (l:List Term.D) (h k:Int) (v:Value.D) (s:Subset.D):WS:=bif noKey l h k v s then(zeroV,[],1)else bif k != 1 then endW (stepW (labelW (startW l v) h s) 2)else endW (labelW (startW l v) h s)
theorem r320 (l:List Term.D) (h k:Int) (v:Value.D) (s:Subset.D):runG ΓKe noL 1 [] F320 (encA L5 (l,h,k,v,s)) wVle=
 bif small24 l.length then bif noKey l h k v s then some (vle (zeroV,[],1))else bif k != 1 then some (vle (endW (stepW (labelW (startW l v) h s) 2)))else some (vle (endW (labelW (startW l v) h s)))else none:=by kernel_rfl
def s320:Sp:= .fn L5 fun x=>(small24 x.1.length,vle (keyV x.1 x.2.1 x.2.2.1 x.2.2.2.1 x.2.2.2.2))
theorem g320:GoodS Tryz.prog N320 s320:=by
 refine goodG (.cons g351 (.cons g318 (.cons g352 (.cons g353 (.cons g354 (.nil _)))))) H320 rfl (by kernel_rfl) noL 1 [] (noLoops (by kernel_rfl)) L5 (by decide) wVle _ fun x r hw e=> ?_
 obtain⟨l,h,k,v,s⟩:=x
 have e1:=congrArg Prod.fst e
 have e2:=congrArg Prod.snd e
 simp only at e1 e2
 refine(r320 l h k v s).trans ?_
 rw[e1,←e2]
 unfold keyV
 cases noKey l h k v s with
 |true=>rfl
 |false=>cases k != 1<;>rfl
@[reducible] def Entry:Ty:= .pair Subset Value
def openV (l:List Term.D) (v:Value.D):Bool:=bif (bif checkV l v==0 then !v.2.1 else false)then bif !v.1 then true else(tAt l v.2.2.2.2).1 != 5 else false
def set1 (out:List Entry.D) (i:Int) (s:Subset.D):List Entry.D:=out.set i.toNat (s,(out.getD i.toNat Entry.dflt).2)
def set2 (out:List Entry.D) (i:Int) (v:Value.D):List Entry.D:=out.set i.toNat ((out.getD i.toNat Entry.dflt).1,v)
theorem makeL_bd (l:List Term.D) (t:Term.D):(makeL l t).2.1.length ≤max l.length 65537:=by
 simp only[makeL]
 cases h0:(findL l t).2==0 with
 |true=>simp only[cond_true];omega
 |false=>
  cases h4:(findL l t).2 != 4 with
  |true=>simp
  |false=>
   have hl:=ixL_len (findL_ok (.inr (by simpa using h4)))
   cases (l.length:Int)==65536 with
   |true=>simp
   |false=>simp;omega
theorem madeV_bd (l:List Term.D) (t:Term.D):(madeV l t).2.1.length ≤max l.length 65537:=by
 unfold madeV
 cases (makeL l t).2.2 != 0 with
 |true=>simp
 |false=>exact makeL_bd l t
theorem partV_bd (l:List Term.D) (v:Value.D) (i:Int):(partV l v i).2.1.length ≤max l.length 65537:=by
 unfold partV
 cases partBad l v i with
 |true=>simp
 |false=>
  cases v.1 with
  |true=>exact madeV_bd l _
  |false=>simp;omega
theorem stepW_bd (x:WS) (i:Int):(stepW x i).2.1.length ≤max x.2.1.length 65537:=by
 unfold stepW
 cases x.2.2 ==0 with
 |true=>exact partV_bd _ _ _
 |false=>simp only[cond_false];omega
theorem walkL_bd: ∀(sd:List Int) (x:WS),(walkL x sd).2.1.length ≤max x.2.1.length 65537:=by
 intro sd
 induction sd with
 |nil=>intro x;simp only[walkL];omega
 |cons i sd ih=>
  intro x
  have h1:=ih (stepW x i)
  have h2:=stepW_bd x i
  simp only[walkL];omega
theorem pathW_bd (x:WS) (h a b:Int):(pathW x h a b).2.1.length ≤max x.2.1.length 65537:=by
 unfold pathW
 refine Nat.le_trans (walkL_bd _ _) ?_
 cases x.2.2 ==0<;>simp<;>omega
theorem labelW_bd (x:WS) (h:Int) (s:Subset.D):(labelW x h s).2.1.length ≤max x.2.1.length 65537:=by
 have h1:=pathW_bd x h 1 s.1
 have h2:=stepW_bd (pathW x h 1 s.1) 2
 unfold labelW
 cases s.2 != 0 with
 |true=>
  have h3:=pathW_bd (stepW (pathW x h 1 s.1) 2) h s.1 s.2
  simp only[cond_true];omega
 |false=>simp only[cond_false];omega
theorem endW_bd (x:WS):(endW x).2.1.length ≤x.2.1.length :=by
 unfold endW
 cases x.2.2 != 0<;>simp
theorem keyV_bd (l:List Term.D) (h k:Int) (v:Value.D) (s:Subset.D):(keyV l h k v s).2.1.length ≤max l.length 65537:=by
 unfold keyV
 cases noKey l h k v s with
 |true=>simp
 |false=>
  have h1:=labelW_bd (startW l v) h s
  have h2:=stepW_bd (labelW (startW l v) h s) 2
  have h3:=endW_bd (stepW (labelW (startW l v) h s) 2)
  have h4:=endW_bd (labelW (startW l v) h s)
  have h5:(startW l v).2.1.length =l.length:=rfl
  cases k != 1 with
  |true=>simp only[cond_true,cond_false];omega
  |false=>simp only[cond_false];omega
theorem small_le {n:Nat} (h:n≤1000000):small24 n=true:=decide_eq_true (by omega)
theorem set_len1 (out:List Entry.D) (i:Int) (s:Subset.D):(set1 out i s).length=out.length:=by unfold set1;simp
theorem set_len2 (out:List Entry.D) (i:Int) (v:Value.D):(set2 out i v).length=out.length:=by unfold set2;simp
theorem own_eq {cs:List SV} {m:Value.D} (h:unV (.agg cs)=some m):AV.own cs= .own (enc Value false m):=by
 have:=unV_eq h
 have e:cs=enc Value false m:=by injection this
 rw[e]
def At (l:List Term.D) (t0:Nat):List Int→Nat→Prop
 |[],t=>t=t0∧ ∃x:Term.D,l[t0]? =some x∧x.1≠5
 |i::p,t=> ∃u:Nat,At l t0 p u∧l[t]? =some (2+i,(u:Int),0)
def In02 (p:List Int):Prop:= ∀x∈p,0≤x∧x≤2
theorem At.mono {l:List Term.D} {t0:Nat} (r:List Term.D): ∀ {p:List Int} {t:Nat},At l t0 p t→At (l++r) t0 p t:=by
 have up: ∀ {t:Nat} {x:Term.D},l[t]? =some x→(l++r)[t]? =some x:=fun {t x} h=>by
  have:=(List.getElem?_eq_some_iff.1 h).1
  rw[List.getElem?_append_left this];exact h
 intro p
 induction p with
 |nil=>rintro t ⟨h1,x,h2,h3⟩;exact⟨h1,x,up h2,h3⟩
 |cons i p ih=>rintro t ⟨u,h1,h2⟩;exact⟨u,ih h1,up h2⟩
theorem At.get {l:List Term.D} {t0:Nat} {p:List Int} {t:Nat} (h:At l t0 p t) (hp:In02 p): ∃x:Term.D,l[t]? =some x∧x.1≠5:=by
 cases p with
 |nil=>obtain⟨rfl,x,h1,h2⟩:=h;exact⟨x,h1,h2⟩
 |cons i p=>
  obtain⟨u,_,h2⟩:=h
  have:=hp i (by simp)
  exact⟨_,h2,by show 2+i≠5;omega⟩
theorem At.uniq {l:List Term.D} (hg:GoodL l) {t0:Nat}: ∀ {p:List Int} {t t':Nat},At l t0 p t→At l t0 p t'→t=t':=by
 intro p
 induction p with
 |nil=>rintro t t' ⟨rfl,_⟩ ⟨rfl,_⟩;rfl
 |cons i p ih=>
  rintro t t' ⟨u,h1,h2⟩ ⟨u',h1',h2'⟩
  obtain rfl:=ih h1 h1'
  exact hg.uniq h2 h2'
def foldW (b:Block.D):List Int→Block.D
 |[]=>b
 |i::p=>(partR (foldW b p) i).1
def Std (sym:Bool) (b:Block.D) (t0:Nat) (l:List Term.D) (p:List Int) (v:Value.D):Prop:=
 match sym with
 |true=> ∃t:Nat,v=symV t∧At l t0 p t
 |false=>v=octV (foldW b p)
structure Den (sym:Bool) (b:Block.D) (t0:Nat) (l:List Term.D) (p:List Int) (v:Value.D):Prop where
 good:GoodL l
 way:In02 p
 std:Std sym b t0 l p v
section
variable {sym:Bool} {b:Block.D} {t0:Nat} {l:List Term.D} {p:List Int} {v w:Value.D}
theorem Den.mono (h:Den sym b t0 l p v) {r:List Term.D} (hg:GoodL (l++r)):Den sym b t0 (l++r) p v:=by
 obtain⟨h1,h2,h3⟩:=h
 refine⟨hg,h2, ?_⟩
 cases sym with
 |true=>obtain⟨t,e,h⟩:=h3;exact⟨t,e,h.mono r⟩
 |false=>exact h3
theorem Den.uniq (h:Den sym b t0 l p v) (h':Den sym b t0 l p w):v=w:=by
 obtain⟨h1,h2,h3⟩:=h
 obtain⟨_,_,h3'⟩:=h'
 cases sym with
 |true=>obtain⟨t,e,h⟩:=h3;obtain⟨t',e',h'⟩:=h3';rw[e,e',h.uniq h1 h']
 |false=>exact(show v=_ from h3).trans (show w=_ from h3').symm
theorem Den.facts (h:Den sym b t0 l p v):checkV l v=0∧ownV l v=false∧v.2.1 =false∧v.1=sym∧(sym=true→((tAt l v.2.2.2.2).1==5)=false):=by
 obtain⟨h1,h2,h3⟩:=h
 cases sym with
 |true=>
  obtain⟨t,rfl,h⟩:=h3
  obtain⟨x,g1,g2⟩:=h.get h2
  have hlt:=(List.getElem?_eq_some_iff.1 g1).1
  have hk:((tAt l (t:Int)).1==5)=false:=by rw[tAt_get g1];simpa using g2
  exact⟨check_sym h1 (by omega) (by omega),hk,rfl,rfl,fun _=>hk⟩
 |false=>
  obtain rfl:v=octV (foldW b p):=h3
  exact⟨check_oct h1 _,rfl,rfl,rfl,fun h=>by cases h⟩
theorem Den.start (h:Den sym b t0 l p v):startW l v=(v,l,0):=by
 obtain⟨h1,h2,h3,h4,h5⟩:=h.facts
 unfold startW startE b51
 rw[h1,h3,h4]
 cases sym with
 |true=>rw[h5 rfl];rfl
 |false=>rfl
theorem Den.open (h:Den sym b t0 l p v):openV l v=true:=by
 obtain⟨h1,h2,h3,h4,h5⟩:=h.facts
 unfold openV
 rw[h1,h3,h4]
 cases sym with
 |true=>unfold bne;rw[h5 rfl];rfl
 |false=>rfl
theorem Den.step (h:Den sym b t0 l p v) (hl:l.length<65536) {i:Int} (h0:0≤i) (h2:i≤2): ∃v' r,partV l v i=(v',l++r,0)∧r.length≤1∧Den sym b t0 (l++r) (i::p) v':=by
 obtain⟨f1,f2,f3,f4,f5⟩:=h.facts
 obtain⟨g1,g2,g3⟩:=h
 have hp:In02 (i::p):=fun x hx=>(List.mem_cons.1 hx).elim (fun e=>e▸⟨h0,h2⟩) (g2 x)
 have he:=partV_may hl f1 f2 h0 h2
 have hb:=partBad_false.2 ⟨f1,f2,h0,h2⟩
 unfold partV at he⊢
 rw[hb]at he⊢
 simp only[cond_false]at he⊢
 cases sym with
 |true=>
  obtain⟨t,rfl,ha⟩:=g3
  have e1:(symV (t:Int)).1=true:=rfl
  have e2:IntKind.i64.wrap (2+i)=2+i:=wrap64 (by omega) (by omega)
  rw[e1,e2]at he⊢
  simp only[cond_true]at he⊢
  obtain⟨j,r,m1,m2,m3,m4,m5⟩:=madeV_ok he
  have hlen:=madeV_len l (2+i,(t:Int),0)
  have m1':madeV l (2+i,(t:Int),0)=(symV j,l++r,0):=m1
  rw[m1']at hlen
  refine⟨symV j,r,m1,by simpa using hlen,m3,hp,j,rfl,t,ha.mono r,m4⟩
 |false=>
  obtain rfl:v=octV (foldW b p):=g3
  have e1:(octV (foldW b p)).1=false:=rfl
  rw[e1]at he⊢
  simp only[cond_false]at he⊢
  refine⟨_,[],by rw[List.append_nil,he];rfl,by simp,by rw[List.append_nil];exact g1,hp,rfl⟩
theorem Den.walk: ∀(sd:List Int) {l:List Term.D} {p:List Int} {v:Value.D},Den sym b t0 l p v→In02 sd→l.length+sd.length≤65536→
 ∃v' r,walkL (v,l,0) sd=(v',l++r,0)∧r.length≤sd.length∧Den sym b t0 (l++r) (sd.reverse++p) v':=by
 intro sd
 induction sd with
 |nil=>intro l p v h _ _;exact⟨v,[],by rw[List.append_nil];rfl,by simp,by rw[List.append_nil];exact h⟩
 |cons i sd ih=>
  intro l p v h hs hl
  rw[List.length_cons]at hl
  obtain⟨i0,i2⟩:=hs i (by simp)
  obtain⟨v1,r1,a1,a2,a3⟩:=h.step (by omega) i0 i2
  obtain⟨v2,r2,b1,b2,b3⟩:=ih a3 (fun x hx=>hs x (by simp [hx])) (by rw[List.length_append];omega)
  refine⟨v2,r1++r2, ?_,by rw[List.length_append,List.length_cons];omega,by rw[List.reverse_cons,List.append_assoc,←List.append_assoc l];exact b3⟩
  rw[walkL,←List.append_assoc,←b1]
  congr 1
end
theorem bitI_01 (b j:Int):0≤bitI b j∧bitI b j≤1:=by
 unfold bitI
 have e2:(BitVec.ofInt 64 (1:Int)).toNat=1:=by decide
 rw[BitVec.toNat_and,e2,Nat.and_one_is_mod,wrapU (by omega) (by omega),wrap64 (by omega) (by omega)]
 omega
theorem setG_01 (b:Int) (n:Nat): ∀(m j:Nat) (l:List Int),(∀x∈l,0≤x∧x≤1)→ ∀x∈setG b n m j l,0≤x∧x≤1:=by
 intro m
 induction m with
 |zero=>intro j l h;exact h
 |succ m ih=>
  intro j l h
  refine ih (j+1) _ fun x hx=> ?_
  rcases List.mem_or_eq_of_mem_set hx with hx|rfl
  ·exact h x hx
  ·exact bitI_01 b j
theorem path_01 (h a b:Int): ∀x∈(pathI h a b).1,0≤x∧x≤1:=by
 unfold pathI
 cases bothI h a b != 0 with
 |true=>intro x hx;cases hx
 |false=>
  cases aboveB a b with
  |false=>intro x hx;cases hx
  |true=>
   refine setG_01 _ _ _ _ _ fun x hx=> ?_
   rw[(List.mem_replicate.1 hx).2];omega
theorem path_02 (h a b:Int):In02 (pathI h a b).1:=fun x hx=>by have:=path_01 h a b x hx;omega
theorem path_lenH (h a b:Int):(pathI h a b).1.length ≤h.toNat:=by
 unfold pathI
 cases hb:bothI h a b != 0 with
 |true=>exact Nat.zero_le _
 |false=>
  cases ha:aboveB a b with
  |false=>exact Nat.zero_le _
  |true=>
   show(setG b (pathN a b).toNat (pathN a b).toNat 0 (List.replicate (pathN a b).toNat 0)).length≤_
   rw[setG_len,List.length_replicate]
   have h2:(chkI h a != 0)=false∧(chkI h b != 0)=false:=by
    unfold bothI both at hb
    cases h1:chkI h a != 0 with
    |true=>rw[h1]at hb;exact absurd (show true=false from hb) (by decide)
    |false=>
     cases h2:chkI h b != 0 with
     |true=>rw[h1,h2]at hb;exact absurd (show true=false from hb) (by decide)
     |false=>exact⟨rfl,rfl⟩
   obtain⟨c1,c2,c3⟩:=chk_zero h2.2
   obtain⟨d1,d2,d3⟩:=chk_zero h2.1
   have e:0≤depI a:=by rw[dep_nat d2];omega
   unfold pathN
   omega
theorem walkL_app: ∀(a c:List Int) (x:WS),walkL x (a++c)=walkL (walkL x a) c:=by
 intro a
 induction a with
 |nil=>intro c x;rfl
 |cons i a ih=>intro c x;exact ih c _
theorem pathW_ok {x:WS} {h a b:Int} (he:(pathI h a b).2=0):pathW x h a b=walkL x (pathI h a b).1:=by
 unfold pathW
 cases hx:x.2.2 ==0 with
 |true=>
  rw[he]
  have:x=(x.1,x.2.1,(0:Int)):=by rw[←eq_of_beq hx]
  rw[cond_true,←this]
 |false=>rfl
def labP (h:Int) (s:Subset.D):List Int:=(pathI h 1 s.1).1++[2]++bif s.2 != 0 then(pathI h s.1 s.2).1 else []
theorem labelW_ok {x:WS} {h:Int} {s:Subset.D} (h1:(pathI h 1 s.1).2=0) (h2:s.2≠0→(pathI h s.1 s.2).2=0):labelW x h s=walkL x (labP h s):=by
 unfold labelW labP
 rw[pathW_ok h1]
 cases hs:s.2 != 0 with
 |true=>
  simp only[cond_true]
  rw[pathW_ok (h2 (by simpa using hs)),walkL_app,walkL_app];rfl
 |false=>
  simp only[cond_false]
  rw[List.append_nil,walkL_app];rfl
def keyP (h k:Int) (s:Subset.D):List Int:=labP h s++bif k != 1 then [2]else []
theorem keyP_02 (h k:Int) (s:Subset.D):In02 (keyP h k s):=by
 intro x hx
 unfold keyP labP at hx
 rcases List.mem_append.1 hx with hx|hx
 ·rcases List.mem_append.1 hx with hx|hx
  ·rcases List.mem_append.1 hx with hx|hx
   ·exact path_02 _ _ _ x hx
   ·rw[List.mem_singleton.1 hx];omega
  ·cases hs:s.2 != 0 with
   |true=>rw[hs]at hx;exact path_02 _ _ _ x hx
   |false=>rw[hs]at hx;cases hx
 ·cases hk:k != 1 with
  |true=>rw[hk]at hx;rw[List.mem_singleton.1 hx];omega
  |false=>rw[hk]at hx;cases hx
theorem labP_len (h:Int) (s:Subset.D):(labP h s).length≤2*h.toNat+1:=by
 have h1:=path_lenH h 1 s.1
 have h2:=path_lenH h s.1 s.2
 unfold labP
 cases s.2 != 0<;>simp<;>omega
theorem keyP_len (h k:Int) (s:Subset.D):(keyP h k s).length≤2*h.toNat+2:=by
 have h1:=labP_len h s
 unfold keyP
 cases k != 1<;>simp<;>omega
def mkP (h k:Int) (s:Subset.D):List Int:=bif s.2==0 then keyP h k s else labP h s
section
variable {sym:Bool} {b:Block.D} {t0:Nat} {l:List Term.D} {m:Value.D}
theorem keyV_run {h k:Int} {s:Subset.D} (hd:Den sym b t0 l [] m) (hl:l.length+(2*h.toNat+2)≤65536) (hn:noKey l h k m s=false) (h1:(pathI h 1 s.1).2=0) (h2:s.2≠0→(pathI h s.1 s.2).2=0):
 ∃v r,keyV l h k m s=(v,l++r,0)∧r.length≤2*h.toNat+2∧Den sym b t0 (l++r) (keyP h k s).reverse v:=by
 have hk:=keyP_len h k s
 obtain⟨v,r,a1,a2,a3⟩:=hd.walk (keyP h k s) (keyP_02 h k s) (by omega)
 refine⟨v,r, ?_,by omega,by rw[List.append_nil]at a3;exact a3⟩
 unfold keyV
 rw[hn,hd.start,labelW_ok h1 h2]
 have e:(bif k != 1 then endW (stepW (walkL (m,l,0) (labP h s)) 2)else endW (walkL (m,l,0) (labP h s)))=endW (walkL (m,l,0) (keyP h k s)):=by
  unfold keyP
  rw[walkL_app]
  cases k != 1<;>rfl
 rw[cond_false,e,a1]
 rfl
def Made (sym:Bool) (b:Block.D) (t0:Nat) (l:List Term.D) (h k:Int) (ps:List Subset.D) (es:List Entry.D) (n:Nat):Prop:=
 es.length=ps.length∧ ∀q:Nat,q<n→ ∃v,eAt' es q=(sAt ps q,v)∧Den sym b t0 l (mkP h k (sAt ps q)).reverse v
where eAt' (es:List Entry.D) (i:Nat):Entry.D:=es.getD i Entry.dflt
theorem Made.next {r:List Term.D} {h k:Int} {ps:List Subset.D} {es:List Entry.D} {j:Nat} (hm:Made sym b t0 l h k ps es j) (hj:j<ps.length) {v:Value.D} (hd:Den sym b t0 (l++r) (mkP h k (sAt ps j)).reverse v):
 Made sym b t0 (l++r) h k ps (set2 (set1 es j (sAt ps j)) j v) (j+1):=by
 obtain⟨h1,h2⟩:=hm
 refine⟨by rw[set_len2,set_len1];exact h1,fun q hq=> ?_⟩
 unfold Made.eAt' set2 set1
 rw[Int.toNat_natCast]
 rcases Nat.lt_or_eq_of_le (Nat.le_of_lt_succ hq)with hlt|rfl
 ·obtain⟨w,e,hw⟩:=h2 q hlt
  refine⟨w, ?_,hw.mono hd.good⟩
  unfold Made.eAt' at e
  rw[←e]
  simp only[List.getD_eq_getElem?_getD]
  rw[List.getElem?_set_ne (by omega),List.getElem?_set_ne (by omega)]
 ·refine⟨v, ?_,hd⟩
  simp only[List.getD_eq_getElem?_getD]
  rw[List.getElem?_set_self (by rw[List.length_set];omega),List.getElem?_set_self (by omega)]
  rfl
end
def sameS (a b:Subset.D):Bool:=a.1==b.1&&a.2==b.2
def anyK (bad:Nat→Bool):Nat→Nat→Bool
 |0,_=>false
 |m+1,j=>bif bad j then true else anyK bad m (j+1)
theorem allK_two {X E:Option AV} {bad:Nat→Bool}: ∀(m j:Nat),allK (fun _=>X) E bad m j=bif anyK bad m j then X else E:=by
 intro m
 induction m with
 |zero=>intro j;rfl
 |succ m ih=>
  intro j
  rw[allK,anyK,ih]
  cases bad j<;>rfl
theorem anyK_false {bad:Nat→Bool}: ∀(m j:Nat),(∀q,j≤q→q<j+m→bad q=false)→anyK bad m j=false:=by
 intro m
 induction m with
 |zero=>intro j _;rfl
 |succ m ih=>
  intro j h
  rw[anyK,h j (Nat.le_refl j) (by omega),cond_false]
  exact ih (j+1) fun q h1 h2=>h q (by omega) (by omega)
theorem odd_01 {l:List Int} (h: ∀x∈l,0≤x∧x≤1):l.any oddB=false:=by
 rw[List.any_eq_false]
 intro x hx
 have:=h x hx
 have:x=0∨x=1:=by omega
 rcases this with rfl|rfl<;>decide
section
variable {sym:Bool} {b:Block.D} {t0:Nat} {l:List Term.D} {m:Value.D}
theorem Den.startE {p:List Int} {v:Value.D} (h:Den sym b t0 l p v):startE l v=0:=congrArg (fun x:WS=>x.2.2) h.start
theorem Den.walkV {p:List Int} {v:Value.D} (h:Den sym b t0 l p v) {sd:List Int} (hs: ∀x∈sd,0≤x∧x≤1) (hl:sd.length≤32) (hm:l.length+sd.length≤65536):
 ∃v' r,walkV l v sd=(v',l++r,0)∧r.length≤sd.length∧Den sym b t0 (l++r) (sd.reverse++p) v':=by
 obtain⟨v',r,a1,a2,a3⟩:=h.walk sd (fun x hx=>by have:=hs x hx;omega) hm
 refine⟨v',r, ?_,a2,a3⟩
 unfold Seat.walkV noWalk
 rw[h.startE,h.start,decide_eq_false (show ¬(sd.length:Int)>32 by omega),odd_01 hs,a1]
 rfl
theorem path_root {h:Int} {s:Subset.D} (h1:IntKind.u64.has s.1) (h2:IntKind.u64.has s.2) (hs:subE h s=0):0≤h∧(pathI h 1 s.1).2=0∧(s.2≠0→(pathI h s.1 s.2).2=0):=by
 obtain⟨a0,a1,a2⟩:=hasU h1
 obtain⟨b0,b1,b2⟩:=hasU h2
 have hok:okS h.toNat s.1.toNat s.2.toNat =true:=by
  rw[subE_nat h1 h2]at hs
  cases ho:okS h.toNat s.1.toNat s.2.toNat with
  |true=>rfl
  |false=>rw[ho]at hs;cases hs
 obtain⟨k1,k2⟩:=okS_iff.1 hok
 obtain⟨o1,o2,o3,o4⟩:=okN_iff.1 k1
 have h0:0≤h:=by omega
 refine⟨h0, ?_,fun hz=> ?_⟩
 ·have q1:okN h.toNat 1=true:=okN_iff.2 ⟨o1,o2,Nat.le_refl 1,by have:=Nat.one_lt_two_pow (n:=h.toNat+1) (by omega);omega⟩
  have q2:abv 1 s.1.toNat =true:=by
   refine abv_iff.2 ⟨by rw[show Nat.log2 1=0 by decide];omega, ?_⟩
   rw[show Nat.log2 1=0 by decide,Nat.sub_zero]
   have m1:=log2_le (n:=s.1.toNat) (by omega)
   have m2:=lt_log2 (n:=s.1.toNat)
   rw[Nat.pow_succ]at m2
   exact Nat.div_eq_of_lt_le (by omega) (by omega)
  have:=path_nat q1 k1 q2
  rw[show((h.toNat:Nat):Int)=h by omega,←a2]at this
  rw[show(1:Int)=((1:Nat):Int)from rfl,this]
 ·obtain⟨j1,j2,j3⟩:=k2.resolve_left (fun e=>hz (by rw[b2,e];rfl))
  have:=path_nat k1 j1 j2
  rw[show((h.toNat:Nat):Int)=h by omega,←a2,←b2]at this
  rw[this]
end
def Γ20:Orc:=orc [(N45,s45),(N47,s47),(N49,s49)]
@[reducible] def A4:List AK:=[.v (.sl Term),.v .bool,.v I,.v Block]
def atomV (l:List Term.D) (s:Bool) (n:Int) (b:Block.D):Value.D×List Term.D×Int:=bif s then madeV l (1,n,0)else bif checkL l != 0 then(zeroV,[],checkL l)else(octV b,l,0)
theorem r20 (l:List Term.D) (s:Bool) (n:Int) (b:Block.D):run Γ20 noL [] F20 (encA A4 (l,s,n,b)) wVle=
 bif s then some (vle (madeV l (1,n,0)))else bif checkL l != 0 then some (vle (zeroV,[],checkL l))else bif small24 l.length then some (vle (octV b,l,0))else none:=by kernel_rfl
def s20:Sp:= .fn A4 fun x=>(true,vle (atomV x.1 x.2.1 x.2.2.1 x.2.2.2))
theorem g20:GoodS Tryz.prog N20 s20:=by
 refine good (.cons g45 (.cons g47 (.cons g49 (.nil _)))) H20 rfl (by kernel_rfl) noL [] (noLoops (by kernel_rfl)) A4 (by decide) wVle _ fun x r hw h=> ?_
 obtain⟨l,s,n,b⟩:=x
 cases h
 refine(r20 l s n b).trans ?_
 simp only[atomV]
 cases s with
 |true=>rfl
 |false=>
  cases h0:checkL l != 0 with
  |true=>rfl
  |false=>rw[small_of (checkL_small (by simpa using h0))];rfl
@[reducible] def RollT:Ty:= .pair I (.pair I (.pair (.sl U) I))
@[reducible] def CenT:Ty:= .pair I (.pair I (.pair .bool (.pair Value (.pair RollT (.pair I (.pair (.sl Block) (.pair I (.sl Term))))))))
def wRoll:WK:= .cells [(2,true,U)]
def wCen:WK:= .cells [(14,true,U),(17,true,Block),(19,true,Term)]
def rollB (r:RollT.D):Bool:=bif (bif (bif decide (r.2.1 <(r.2.2.1.length :Int))then true else decide (r.2.1 >1024))then true else decide (r.2.2.2 <0))then true else decide (r.2.2.2 >1099511627776)
def rollE (r:RollT.D):Int:=bif rollB r then 1 else lchkI r.1 r.2.2.1
theorem r896 (r:RollT.D):run (orc [(N400,s400L)]) noL [] F896 (encA [.v RollT] r) []=bif rollB r then some (.one (.int .i64 1))else some (.one (.int .i64 (lchkI r.1 r.2.2.1))):=by kernel_rfl
def s896:Sp:= .fn [.v RollT] fun r=>(true,.one (.int .i64 (rollE r)))
def zeroR:RollT.D:=(0,0,[],0)
def rollV (h k:Int):RollT.D×Int:=bif rollE (h,k,[],0) != 0 then(zeroR,rollE (h,k,[],0))else((h,k,[],0),0)
def rP (x:RollT.D×Int):AV:= .tup [(true,enc RollT true x.1),(false,[.int .i64 x.2])]
theorem r890 (h k:Int):run (orc [(N896,s896)]) noL [] F890 (encA [.v I,.v I] (h,k)) [wRoll,.id]=
 bif rollE (h,k,[],0) != 0 then some (rP (zeroR,rollE (h,k,[],0)))else some (rP ((h,k,[],0),0)):=by kernel_rfl
def s890:Sp:= .fn [.v I,.v I] fun x=>(true,rP (rollV x.1 x.2))
def s428f:Sp:= .fn [.v (.sl U)] fun xs=>(decide (xs.length≤1000000),.one (.sl true U none xs))
theorem g428f:GoodS Tryz.prog N428 s428f:=g428.asSl
theorem r891n (xs:List Block.D):run (orc []) noL [] F891 [.one (.sl false Block (some true) xs)] [.arr Block]=some (.arr true Block []):=by kernel_rfl
theorem r891 (xs:List Block.D):run (orc []) noL [] F891 [.one (.sl false Block (some false) xs)] [.arr Block]=
 bif decide ((([]:List Block.D).length+xs.length)*16≤140737488355328)then some (.arr true Block ([]++xs))else none:=by kernel_rfl
def s891:Sp:= .fn [.v (.sl Block)] fun xs=>(decide (xs.length≤1000000),.arr true Block xs)
theorem ks891 (ws:List WK) (args:List AV) (hl:args.length≤F891.ntmps) {r:AV} (h:run (orc []) noL [] F891 args ws=some r):Good Tryz.prog N891 args r:=
 good_of mixed tbOk (.nil _) H891 (bd rfl) rfl rfl args hl ⟨F891.ntmps,0,[]⟩ rfl noL (noLoops (by kernel_rfl)) (kretW_spec ws) h
theorem g891:GoodS Tryz.prog N891 s891:=by
 refine .fn (callable_of H891 (bd rfl) (by kernel_rfl)) fun xs r hw h=> ?_
 have hs:xs.length≤1000000:=of_decide_eq_true (congrArg Prod.fst h)
 obtain rfl:AV.arr true Block xs=r:=congrArg Prod.snd h
 refine good_nl (fun e=> ?_) ?_
 ·subst e
  exact ks891 [.arr Block] _ (by show 1≤8;omega) (r891n [])
 ·refine ks891 [.arr Block] _ (by show 1≤8;omega) ((r891 xs).trans ?_)
  rw[decide_eq_true (by simp only[List.length_nil];omega)]
  rfl
def s891f:Sp:= .fn [.v (.sl Block)] fun xs=>(decide (xs.length≤1000000),.one (.sl true Block none xs))
theorem g891f:GoodS Tryz.prog N891 s891f:=g891.asSl
abbrev cH (c:CenT.D):Int:=c.1
abbrev cK (c:CenT.D):Int:=c.2.1
abbrev cY (c:CenT.D):Bool:=c.2.2.1
abbrev cM (c:CenT.D):Value.D:=c.2.2.2.1
abbrev cR (c:CenT.D):RollT.D:=c.2.2.2.2.1
abbrev cE (c:CenT.D):Int:=c.2.2.2.2.2.1
abbrev cD (c:CenT.D):List Block.D:=c.2.2.2.2.2.2.1
abbrev cA (c:CenT.D):Int:=c.2.2.2.2.2.2.2.1
abbrev cL (c:CenT.D):List Term.D:=c.2.2.2.2.2.2.2.2
abbrev rL (r:RollT.D):List Int:=r.2.2.1
def lastI (y:Bool):Int:=bif y then 524287 else 1099511627776
theorem r852 (y:Bool):run (orc []) noL [] F852 (encA [.v .bool] y) []=bif y then some (.one (.int .i64 524287))else some (.one (.int .i64 1099511627776)):=by kernel_rfl
def s852:Sp:= .fn [.v .bool] fun y=>(true,.one (.int .i64 (lastI y)))
def Γ853:Orc:=orc [(N428,s428f),(N891,s891f),(N47,s47f)]
theorem r853 (c:CenT.D):run Γ853 noL [] F853 (encA [.v CenT] c) [wCen]=
 bif decide ((rL (cR c)).length≤1000000)then bif decide ((cD c).length≤1000000)then bif small24 (cL c).length then some (.agg (enc CenT true c))else none else none else none:=by kernel_rfl
def cenS (c:CenT.D):Bool:=decide ((rL (cR c)).length≤1000000)&&(decide ((cD c).length≤1000000)&&small24 (cL c).length)
def s853:Sp:= .fn [.v CenT] fun c=>(cenS c,.agg (enc CenT true c))
theorem g896:GoodS Tryz.prog N896 s896:=by
 refine good (.cons g400L (.nil _)) H896 rfl (by kernel_rfl) noL [] (noLoops (by kernel_rfl)) [.v RollT] (by decide) [] _ fun x r hw e=> ?_
 cases e
 refine(r896 x).trans ?_
 unfold rollE
 cases rollB x<;>rfl
theorem g890:GoodS Tryz.prog N890 s890:=by
 refine good (.cons g896 (.nil _)) H890 rfl (by kernel_rfl) noL [] (noLoops (by kernel_rfl)) [.v I,.v I] (by decide) [wRoll,.id] _ fun x r hw e=> ?_
 obtain⟨h,k⟩:=x
 cases e
 refine(r890 h k).trans ?_
 unfold rollV
 cases rollE (h,k,[],0) != 0<;>rfl
theorem g852:GoodS Tryz.prog N852 s852:=by
 refine good (.nil _) H852 rfl (by kernel_rfl) noL [] (noLoops (by kernel_rfl)) [.v .bool] (by decide) [] _ fun x r hw e=> ?_
 cases e
 refine(r852 x).trans ?_
 cases x<;>rfl
theorem g853:GoodS Tryz.prog N853 s853:=by
 refine good (.cons g428f (.cons g891f (.cons g47f (.nil _)))) H853 rfl (by kernel_rfl) noL [] (noLoops (by kernel_rfl)) [.v CenT] (by decide) [wCen] _ fun c r hw e=> ?_
 simp only[Prod.mk.injEq]at e
 obtain⟨e1,rfl⟩:=e
 unfold cenS at e1
 simp only[Bool.and_eq_true]at e1
 obtain⟨e1,e2,e3⟩:=e1
 refine(r853 c).trans ?_
 rw[e1,e2,e3];rfl
def Γ839:Orc:=orc [(N318,s318),(N346,s346),(N896,s896),(N852,s852)]
def chkB (c:CenT.D):Bool:=bif bif bif bif (mayI (cH c) (cK c) (1,0)).2 != 0 then true else(walkV (cL c) (cM c) []).2.2 != 0 then true else !(cM c).1==cY c then true else rollE (cR c) != 0 then true else(cR c).1 != cH c
def oI (n:Int):Option AV:=some (.one (.int .i64 n))
def chkC (c:CenT.D):Int:=
 bif chkB c then 1 else bif decide (cE c<0)then 1 else bif decide (cE c>lastI (cY c))then 1 else bif decide (((cD c).length:Int)>4096)then 1 else bif decide (cA c<1)then 1 else bif decide (cA c>((cD c).length:Int))then 1 else 0
theorem r839 (c:CenT.D):run Γ839 noL [] F839 (encA [.v CenT] c) []=
 bif small24 (cL c).length then bif chkB c then oI 1 else bif decide (cE c<0)then oI 1 else bif decide (cE c>lastI (cY c))then oI 1 else bif decide (((cD c).length:Int)>4096)then oI 1 else bif decide (cA c<1)then oI 1 else bif decide (cA c>((cD c).length:Int))then oI 1 else oI 0 else none:=by kernel_rfl
def s839:Sp:= .fn [.v CenT] fun c=>(small24 (cL c).length,.one (.int .i64 (chkC c)))
theorem g839:GoodS Tryz.prog N839 s839:=by
 refine good (.cons g318 (.cons g346 (.cons g896 (.cons g852 (.nil _))))) H839 rfl (by kernel_rfl) noL [] (noLoops (by kernel_rfl)) [.v CenT] (by decide) [] _ fun c r hw e=> ?_
 simp only[Prod.mk.injEq]at e
 obtain⟨e1,rfl⟩:=e
 refine(r839 c).trans ?_
 rw[e1]
 unfold chkC
 cases chkB c with
 |true=>rfl
 |false=>
 cases decide (cE c<0)with
 |true=>rfl
 |false=>
 cases decide (cE c>lastI (cY c))with
 |true=>rfl
 |false=>
 cases decide (((cD c).length:Int)>4096)with
 |true=>rfl
 |false=>
 cases decide (cA c<1)with
 |true=>rfl
 |false=>
 cases decide (cA c>((cD c).length:Int))<;>rfl
def Γ892:Orc:=orc [(N20,s20)]
def atm (c:CenT.D):Value.D×List Term.D×Int:=atomV (cL c) (cY c) (cA c) ((cD c).getD (cA c).toNat (Block:Ty).dflt)
def setAL (c:CenT.D) (n:Int) (l:List Term.D):CenT.D:=(c.1,c.2.1,c.2.2.1,c.2.2.2.1,c.2.2.2.2.1,c.2.2.2.2.2.1,c.2.2.2.2.2.2.1,n,l)
def drawV (c:CenT.D):(Value.D×Int)×CenT.D:=
 bif cA c==((cD c).length:Int)then((zeroV,10),c)else bif (atm c).2.2 != 0 then((zeroV,(atm c).2.2),c)else(((atm c).1,0),setAL c (IntKind.i64.wrap (cA c+1)) (atm c).2.1)
def inA (c:CenT.D):Bool:=bif cA c==((cD c).length:Int)then true else inB (cA c) (cD c).length
theorem r892 (c:CenT.D):runIO Γ892 noL2 1 [] F892 [.one (.ptr 60 0)] [.own (enc CenT false c)] 1 []=
 bif cA c==((cD c).length:Int)then some (ve (zeroV,10),[.own (enc CenT false c)])else bif inB (cA c) (cD c).length then bif (atm c).2.2 != 0 then some (ve (zeroV,(atm c).2.2),[.own (enc CenT false c)])else
  some (ve ((atm c).1,0),[.own (((enc CenT false c).set 18 (.int .i64 (IntKind.i64.wrap (cA c+1)))).set 19 (.sl true Term none (atm c).2.1))])else none:=by kernel_rfl
def s892:Sp:=objSp CenT [] fun c _=>(inA c,ve (drawV c).1,(drawV c).2)
theorem g892:GoodS Tryz.prog N892 s892:=by
 refine goodObj (callable_of H892 (bd rfl) (by kernel_rfl)) fun c x hw _ e=> ?_
 have key: ∀ {r:AV} {gs':List AV},runIO Γ892 noL2 1 [] F892 [.one (.ptr 60 0)] [.own (enc CenT false c)] 1 []=some (r,gs')→GoodIO Tryz.prog N892 [.one (.ptr 0 0)] 1 [.own (enc CenT false c)] r gs':=fun h=>
  goodIO1 (.cons g20 (.nil _)) H892 rfl noL2 1 [] (noLoops2 (by kernel_rfl)) [.one (.ptr 0 0)] [.own (enc CenT false c)] 1 rfl rfl rfl (Nat.le_refl _) (by decide) (Nat.le_refl _) [] h
 have e:inA c=true:=e
 show ∃gs',GoodIO Tryz.prog N892 [.one (.ptr 0 0)] 1 [.own (enc CenT false c)] (ve (drawV c).1) gs'∧renAs false some gs'=some [.own (enc CenT false (drawV c).2)]
 unfold inA at e
 unfold drawV
 have:=r892 c
 cases h1:cA c==((cD c).length:Int)with
 |true=>rw[h1]at this;exact⟨_,key this,rfl⟩
 |false=>
  rw[h1]at this e
  simp only[cond_false]at e
  rw[e]at this
  cases h2:(atm c).2.2 != 0 with
  |true=>rw[h2]at this;exact⟨_,key this,rfl⟩
  |false=>rw[h2]at this;exact⟨_,key this,rfl⟩
def zeroC:CenT.D:=(0,0,false,zeroV,zeroR,0,[],0,[])
def cP (x:CenT.D×Int):AV:= .tup [(true,enc CenT true x.1),(false,[.int .i64 x.2])]
def setM (c:CenT.D) (v:Value.D):CenT.D:=(c.1,c.2.1,c.2.2.1,v,c.2.2.2.2)
def newC (h k:Int) (y:Bool) (n:Int) (ds:List Block.D):CenT.D:=(h,k,y,zeroV,(rollV h n).1,0,ds,0,[])
def Γ836:Orc:=orc [(N890,s890),(N318,s318),(N891,s891f),(N892,s892)]
@[reducible] def A836:List AK:=[.v I,.v I,.v .bool,.v I,.v (.sl Block)]
def setB (h k n:Int) (ds:List Block.D):Bool:=bif bif (rollV h n).2 != 0 then true else(mayI h k (1,0)).2 != 0 then true else decide ((ds.length:Int)>4096)
def setupV (h k:Int) (y:Bool) (n:Int) (ds:List Block.D):CenT.D×Int:=
 bif setB h k n ds then(zeroC,1)else bif (drawV (newC h k y n ds)).1.2 != 0 then(zeroC,(drawV (newC h k y n ds)).1.2)else(setM (drawV (newC h k y n ds)).2 (drawV (newC h k y n ds)).1.1,0)
theorem r836 (h k:Int) (y:Bool) (n:Int) (ds:List Block.D):run Γ836 noL [] F836 (encA A836 (h,k,y,n,ds)) [wCen,.id]=
 bif setB h k n ds then some (cP (zeroC,1))else bif decide (ds.length≤1000000)then bif inA (newC h k y n ds)then bif (drawV (newC h k y n ds)).1.2 != 0 then some (cP (zeroC,(drawV (newC h k y n ds)).1.2))else
  some (cP (setM (drawV (newC h k y n ds)).2 (drawV (newC h k y n ds)).1.1,0))else none else none:=by kernel_rfl
def s836:Sp:= .fn A836 fun x=>(true,cP (setupV x.1 x.2.1 x.2.2.1 x.2.2.2.1 x.2.2.2.2))
theorem g836:GoodS Tryz.prog N836 s836:=by
 refine good (.cons g890 (.cons g318 (.cons g891f (.cons g892 (.nil _))))) H836 rfl (by kernel_rfl) noL [] (noLoops (by kernel_rfl)) A836 (by decide) [wCen,.id] _ fun x r hw e=> ?_
 obtain⟨h,k,y,n,ds⟩:=x
 cases e
 refine(r836 h k y n ds).trans ?_
 show _=some (cP (setupV h k y n ds))
 unfold setupV
 cases h1:setB h k n ds with
 |true=>rfl
 |false=>
  have hd:ds.length≤4096:=by
   unfold setB at h1
   cases h2:(bif (rollV h n).2 != 0 then true else(mayI h k (1,0)).2 != 0)with
   |true=>rw[h2]at h1;cases h1
   |false=>
    rw[h2]at h1
    have:=of_decide_eq_false h1
    omega
  have hi:inA (newC h k y n ds)=true:=by
   unfold inA
   cases h2:cA (newC h k y n ds)==((cD (newC h k y n ds)).length:Int)with
   |true=>rfl
   |false=>
    have h2: ¬cA (newC h k y n ds)=((cD (newC h k y n ds)).length:Int):=by simpa using h2
    have h2: ¬(0:Int)=(ds.length:Int):=h2
    show inB ((0:Nat):Int) ds.length=true
    exact inB_lt (by omega)
  rw[decide_eq_true (show ds.length≤1000000 by omega),hi]
  simp only[cond_false,cond_true]
  cases (drawV (newC h k y n ds)).1.2 != 0<;>rfl
end Go.AM.Seat
