import Derived.Test.YthnonmlhgafalaaGreatZSeCv4
import Derived.Test.YthnonmlhgafalaaGreatZSeCm
import Derived.Test.YthnonmlhgafalaaGreatZAmNil
set_option linter.unusedVariables false
set_option linter.unusedSimpArgs false
set_option maxRecDepth 100000
namespace Go.AM.Seat
open Go Go.AM Go.Proofs
theorem tm440:F440.ntmps=61:=by kernel_rfl
theorem nil440 (w:World):Calls Tryz.prog N440 #[.slice none 0 0] w fun e w'=>e= .returned (.slice none 0 0)∧w'=w:=by
 go_enter H440,tm440
 go_wp2_with fail
 all_goals go_ret
 all_goals exact⟨rfl,rfl⟩
theorem io440 (l:List Int) (hl:l.length≤1000000):GoodIO Tryz.prog N440 [.one (.hot 0 none)] 0 [.arr false (.int .u64) l] (.one (.hot 0 none)) [.arr false (.int .u64) (compactL l)]:=
 compact_io layCm zerCm nil440 l hl
def s440:Sp:= .io fun a p gs=>match a,p,gs with
 |[.one (.hot 0 none)],0,[.arr false (.int .u64) l]=>some (decide (l.length≤1000000),.one (.hot 0 none),[.arr false U (compactL l)])
 |_,_,_=>none
theorem g440:GoodS Tryz.prog N440 s440:=by
 refine GoodS.io (callable_of H440 (bd rfl) (by kernel_rfl)) fun a p gs r gs' hw1 hw2 h=> ?_
 clear hw1 hw2
 unfold s440 at h
 split at h
 ·rename_i l
  simp only[Option.some.injEq,Prod.mk.injEq,decide_eq_true_eq]at h
  obtain⟨hs,rfl,rfl⟩:=h
  exact io440 l hs
 ·cases h
theorem mapLoop {ρ:Type} {n:Nat} {g:Nat→Int→Int} {F:Nat→List Int→Int→Option ρ} {K:List Int→Option ρ} (hmax:(n:Int)≤9223372036854775807)
 (h1: ∀fuel lv,lv.length=n→F (fuel+1) lv (n:Int)=K lv) (h2: ∀fuel lv (j:Nat),lv.length=n→j<n→F (fuel+1) lv (j:Int)=F fuel (lv.set j (g j (lv.getD j 0))) ((j+1:Nat):Int))
 {lv:List Int} (hl:lv.length=n) {out:ρ} (h:K (lv.mapIdx g)=some out): ∃fuel,F fuel lv 0=some out:=by
 have key: ∀(m j:Nat) (lv':List Int),j+m=n→lv'=lv.mapIdx (fun k x=>if k<j then g k x else x)→ ∃fuel,F fuel lv' (j:Int)=some out:=by
  intro m
  induction m with
  |zero=>
   intro j lv' hj e
   obtain rfl:j=n:=by omega
   refine⟨1,(h1 0 lv' (by rw[e,List.length_mapIdx,hl])).trans ?_⟩
   rw[←h,e]
   congr 1
   apply List.ext_getElem?
   intro k
   rw[List.getElem?_mapIdx,List.getElem?_mapIdx]
   rcases Nat.lt_or_ge k lv.length with hk|hk
   ·rw[List.getElem?_eq_getElem hk]
    simp only[Option.map_some]
    rw[if_pos (by omega)]
   ·rw[List.getElem?_eq_none hk];rfl
  |succ m ih=>
   intro j lv' hj e
   have hlen:lv'.length=n:=by rw[e,List.length_mapIdx,hl]
   obtain⟨fuel,hf⟩:=ih (j+1) (lv'.set j (g j (lv'.getD j 0))) (by omega) (by
    apply List.ext_getElem?
    intro k
    rw[List.getElem?_set,List.getElem?_mapIdx]
    have hj':j<lv.length:=by omega
    split
    ·rename_i ejk
     subst ejk
     rw[if_pos (by omega),List.getElem?_eq_getElem hj',List.getD_eq_getElem?_getD,e,List.getElem?_mapIdx,List.getElem?_eq_getElem hj']
     simp
    ·rename_i ejk
     rw[e,List.getElem?_mapIdx]
     rcases Nat.lt_or_ge k lv.length with hk|hk
     ·rw[List.getElem?_eq_getElem hk]
      simp only[Option.map_some]
      congr 1
      by_cases hkj:k<j
      ·rw[if_pos hkj,if_pos (by omega)]
      ·rw[if_neg hkj,if_neg (by omega)]
     ·rw[List.getElem?_eq_none hk];rfl)
   exact⟨fuel+1,(h2 fuel lv' j hlen (by omega)).trans hf⟩
 exact key n 0 lv (by omega) (by
  apply List.ext_getElem?
  intro k
  rw[List.getElem?_mapIdx]
  cases lv[k]? <;>simp)
def shr1 (x:Int):Int:=x.fdiv (2^min (Int.toNat 1) IntKind.u64.bits)
def Γ427:Orc:=orcF2 none [(N400,s400L),(N323,s323),(N439,s439),(N440,s440)]
theorem Γ427ok:OrcOk Tryz.prog Γ427:=OrcOk.toF none (.cons g400L (.cons g323 (.cons g439 (.cons g440 (.nil _)))))
abbrev live427a:List (Nat×Dir):=[(0,.keep),(4,.keep),(5,.keep),(7,.arr U),(23,.keep),(24,.keep),(25,.keep)]
abbrev live427b:List (Nat×Dir):=[(7,.arr U),(12,.arr U),(45,.keep),(46,.keep)]
abbrev live427c:List (Nat×Dir):=[(7,.arr U),(12,.arr U),(45,.keep),(46,.keep),(53,.keep),(54,.keep)]
abbrev lay427:List (Nat×List (Nat×Dir)):=[(0,live427a),(2,live427b),(4,live427c)]
def vs427a (a:Int) (lv l:List Int) (n i:Int):List AV:=[.one (.int .i64 a),.one .nils,.one (.int .i64 0),.arr true U lv,.one (.sl false U none l),.one (.int .i64 n),.one (.int .i64 i)]
def vs427b (lv out:List Int) (n i:Int):List AV:=[.arr true U lv,.arr true U out,.one (.int .i64 n),.one (.int .i64 i)]
def vs427c (lv out:List Int) (n i:Int) (m j:Int):List AV:=[.arr true U lv,.arr true U out,.one (.int .i64 n),.one (.int .i64 i),.one (.int .i64 m),.one (.int .i64 j)]
noncomputable abbrev lk427 (k:Nat):Nat×Code:=(loopsOf 0 (body F427)).getD k (0,.skip)
noncomputable abbrev lo427a (Λ:Lam AV) (K:AE→List AV→Option AV) (fuel:Nat) (vs:List AV):Option AV:=loopN (aexec tb Γ427 Λ ⟨68,0,lay427⟩ (lk427 0).2 0) 68 0 live427a K fuel vs
noncomputable abbrev lo427b (Λ:Lam AV) (K:AE→List AV→Option AV) (fuel:Nat) (vs:List AV):Option AV:=loopN (aexec tb Γ427 Λ ⟨68,0,lay427⟩ (lk427 1).2 2) 68 0 live427b K fuel vs
noncomputable abbrev lo427c (Λ:Lam AV) (K:AE→List AV→Option AV) (fuel:Nat) (vs:List AV):Option AV:=loopN (aexec tb Γ427 Λ ⟨68,0,lay427⟩ (lk427 2).2 4) 68 0 live427c K fuel vs
def upL (lv:List Int):List Int:=compactL (lv.map shr1)
def lvG:Nat→List Int→List Int
 |0,lv=>lv
 |m+1,lv=>lvG m (upL lv)
def treeG:Nat→List Int→List Int→List Int
 |0,_,out=>out
 |m+1,lv,out=>treeG m (upL lv) (lv++out)
def gd427a (a:Int) (lv l:List Int) (n:Int):Bool:=decide (n=l.length)&&(decide (lv.length=l.length)&&(decide (n≤1000000)&&l.all fun x=>(leafI a x).2==0))
def gd427b (lv out:List Int) (n:Int):Bool:=decide (0≤n)&&(decide (n≤64)&&(decide (lv.length≤1024)&&decide (out.length=0)))
def Λ427a:Lam AV:=fun _ vs K=>
 match vs with
 |[.one (.int .i64 a),.one .nils,.one (.int .i64 0),.arr true (.int .u64) lv,.one (.sl false (.int .u64) none l),.one (.int .i64 n),.one (.int .i64 0)]=>
  bif gd427a a lv l n then K (.exit 0) (vs427a a (l.map fun x=>(leafI a x).1) l n n)else none
 |_=>none
def Λ427b:Lam AV:=fun _ vs K=>
 match vs with
 |[.arr true (.int .u64) lv,.arr true (.int .u64) out,.one (.int .i64 n),.one (.int .i64 0)]=>
  bif gd427b lv out n then K (.exit 2) (vs427b (lvG n.toNat lv) (treeG n.toNat lv []) n n)else none
 |_=>none
def Λ427c:Lam AV:=fun _ vs K=>
 match vs with
 |[.arr true (.int .u64) lv,.arr true (.int .u64) out,.one (.int .i64 n),.one (.int .i64 i),.one (.int .i64 m),.one (.int .i64 0)]=>
  bif decide (m=lv.length)&&decide (lv.length≤1000000)then K (.exit 4) (vs427c (lv.map shr1) out n i m m)else none
 |_=>none
def Λ427:Lam AV:=fun cur vs K=>match cur with|0=>Λ427a cur vs K|2=>Λ427b cur vs K|4=>Λ427c cur vs K|_=>none
theorem step427a (a:Int) (lv l:List Int) (n i:Int) (Λ:Lam AV) (K:AE→List AV→Option AV) (fuel:Nat):lo427a Λ K (fuel+1) (vs427a a lv l n i)=
 bif decide (i<n)then bif inB i l.length then bif (leafI a (bsAu l i)).2 != 0 then K .ret [.one (.int .i64 a),.one .nils,.one (.int .i64 (leafI a (bsAu l i)).2),.arr true U lv,.one (.sl false U none l),.one (.int .i64 n),.one (.int .i64 i)]else
  bif inB i lv.length then lo427a Λ K fuel (vs427a a (lv.set i.toNat (leafI a (bsAu l i)).1) l n (IntKind.i64.wrap (i+1)))else none else none else K (.exit 0) (vs427a a lv l n i):=by kernel_rfl
theorem step427c (lv out:List Int) (n i m j:Int) (Λ:Lam AV) (K:AE→List AV→Option AV) (fuel:Nat):lo427c Λ K (fuel+1) (vs427c lv out n i m j)=
 bif decide (j<m)then bif inB j lv.length then bif inB j lv.length then lo427c Λ K fuel (vs427c (lv.set j.toNat (shr1 (lv.getD j.toNat (U:Ty).dflt))) out n i m (IntKind.i64.wrap (j+1)))else none else none else K (.exit 4) (vs427c lv out n i m j):=by kernel_rfl
theorem step427b (lv out:List Int) (n i:Int) (K:AE→List AV→Option AV) (fuel:Nat):lo427b Λ427 K (fuel+1) (vs427b lv out n i)=
 bif decide (i<n)then bif decide (lv.length+out.length≤1000000)then bif decide ((lv.length:Int)=lv.length)&&decide (lv.length≤1000000)then bif decide ((lv.map shr1).length≤1000000)then
  lo427b Λ427 K fuel (vs427b (upL lv) (lv++out) n (IntKind.i64.wrap (i+1)))else none else none else none else K (.exit 2) (vs427b lv out n i):=by kernel_rfl
theorem loop427a:LoopP tb Γ427 Λ427 ⟨68,0,lay427⟩ (lk427 0):=by
 intro vs K out h
 have hcur:(lk427 0).1=0:=by kernel_rfl
 rw[hcur]at h⊢
 replace h:Λ427a 0 vs K=some out:=h
 unfold Λ427a at h
 split at h
 ·rename_i a lv l n
  cases hc:gd427a a lv l n with
  |false=>rw[hc]at h;cases h
  |true=>
   rw[hc]at h
   unfold gd427a at hc
   simp only[Bool.and_eq_true,decide_eq_true_eq,List.all_eq_true]at hc
   obtain⟨rfl,h1,h2,h3⟩:=hc
   refine mapLoop (n:=l.length) (g:=fun k _=>(leafI a (bsAu l k)).1) (F:=fun fuel lv i=>lo427a Λ427 K fuel (vs427a a lv l l.length i)) (K:=fun lv=>K (.exit 0) (vs427a a lv l l.length l.length)) (by omega)
    (fun fuel lv' hl=> ?_) (fun fuel lv' j hl hj=> ?_) h1 (Eq.trans ?_ h)
   ·rw[step427a,nlt_dec];rfl
   ·have e0:((leafI a (bsAu l j)).2 != 0)=false:=by
     have:=h3 l[j] (List.getElem_mem hj)
     have e1:bsAu l (j:Int)=l[j]:=by unfold bsAu;simp [hj]
     rw[e1];unfold bne;rw[this];rfl
    rw[step427a,lt_dec hj,inB_lt hj,e0,inB_lt (show j<lv'.length by omega),wrap64 (n:=(j:Int)+1) (by omega) (by omega)]
    rfl
   ·show K _ (vs427a a (lv.mapIdx fun k _=>(leafI a (bsAu l k)).1) l l.length l.length)=_
    have e:(lv.mapIdx fun k _=>(leafI a (bsAu l k)).1)=l.map fun x=>(leafI a x).1:=by
     apply List.ext_getElem (by simp [h1])
     intro k hk1 hk2
     have hk:k<l.length:=by simpa using hk2
     have e1:bsAu l (k:Int)=l[k]:=by unfold bsAu;simp [hk]
     simp [e1]
    rw[e]
    rfl
 ·cases h
theorem loop427c:LoopP tb Γ427 Λ427 ⟨68,0,lay427⟩ (lk427 2):=by
 intro vs K out h
 have hcur:(lk427 2).1=4:=by kernel_rfl
 rw[hcur]at h⊢
 replace h:Λ427c 4 vs K=some out:=h
 unfold Λ427c at h
 split at h
 ·rename_i lv ot n i m
  cases hc:decide (m=lv.length)&&decide (lv.length≤1000000)with
  |false=>rw[hc]at h;cases h
  |true=>
   rw[hc]at h
   simp only[Bool.and_eq_true,decide_eq_true_eq]at hc
   obtain⟨rfl,h2⟩:=hc
   refine mapLoop (n:=lv.length) (g:=fun _ x=>shr1 x) (F:=fun fuel lv' j=>lo427c Λ427 K fuel (vs427c lv' ot n i lv.length j)) (K:=fun lv'=>K (.exit 4) (vs427c lv' ot n i lv.length lv.length)) (by omega)
    (fun fuel lv' hl=> ?_) (fun fuel lv' j hl hj=> ?_) rfl (Eq.trans ?_ h)
   ·rw[step427c,nlt_dec];rfl
   ·rw[step427c,lt_dec hj,inB_lt (show j<lv'.length by omega),wrap64 (n:=(j:Int)+1) (by omega) (by omega)]
    rfl
   ·show K _ (vs427c (lv.mapIdx fun _ x=>shr1 x) ot n i lv.length lv.length)=_
    have e:(lv.mapIdx fun _ x=>shr1 x)=lv.map shr1:=by
     apply List.ext_getElem (by simp)
     intro k hk1 hk2
     simp
    rw[e]
    rfl
 ·cases h
theorem upL_len (lv:List Int):(upL lv).length≤lv.length:=by
 unfold upL
 have:=compactL_len (lv.map shr1)
 rw[List.length_map]at this
 exact this
theorem loop427b:LoopP tb Γ427 Λ427 ⟨68,0,lay427⟩ (lk427 1):=by
 intro vs K out h
 have hcur:(lk427 1).1=2:=by kernel_rfl
 rw[hcur]at h⊢
 replace h:Λ427b 2 vs K=some out:=h
 unfold Λ427b at h
 split at h
 ·rename_i lv ot n
  cases hc:gd427b lv ot n with
  |false=>rw[hc]at h;cases h
  |true=>
   rw[hc]at h
   unfold gd427b at hc
   simp only[Bool.and_eq_true,decide_eq_true_eq]at hc
   obtain⟨h0,h1,h2,h3⟩:=hc
   obtain rfl:ot=[]:=List.length_eq_zero_iff.1 h3
   obtain⟨n,rfl⟩: ∃k:Nat,(k:Int)=n:=⟨n.toNat,by omega⟩
   rw[Int.toNat_natCast]at h
   have key: ∀(m j:Nat) (lv ot:List Int),j+m=n→lv.length≤1024→ot.length≤1024*j→K (.exit 2) (vs427b (lvG m lv) (treeG m lv ot) n n)=some out→ ∃fuel,lo427b Λ427 K fuel (vs427b lv ot n j)=some out:=by
    intro m
    induction m with
    |zero=>
     intro j lv ot hj _ _ h
     obtain rfl:j=n:=by omega
     exact⟨1,by rw[step427b,nlt_dec];exact h⟩
    |succ m ih=>
     intro j lv ot hj hl ho h
     have hu:=upL_len lv
     obtain⟨fuel,hf⟩:=ih (j+1) (upL lv) (lv++ot) (by omega) (by omega) (by rw[List.length_append];omega) h
     refine⟨fuel+1, ?_⟩
     rw[step427b,lt_dec (show j<n by omega),decide_eq_true (show lv.length+ot.length≤1000000 by omega),decide_eq_true (show lv.length≤1000000 by omega),decide_eq_true (show(lv.map shr1).length≤1000000 by rw[List.length_map];omega),
      wrap64 (n:=(j:Int)+1) (by omega) (by omega)]
     simp only[decide_true,Bool.and_self,cond_true]
     exact hf
   exact key n 0 lv [] (by omega) h2 (by simp) h
 ·cases h
def treeL (a:Int) (l:List Int):List Int:=treeG (a+1).toNat (l.map fun x=>(leafI a x).1) []
def treeI (a:Int) (l:List Int):List Int×Int:=bif lchkI a l != 0 then([],lchkI a l)else(treeL a l,0)
theorem r427 (a:Int) (l:List Int):run Γ427 Λ427 lay427 F427 [.one (.int .i64 a),.one (.sl false U none l)] [.sl true U,.id]=
 bif lchkI a l != 0 then some (rlu [] (lchkI a l))else bif decide (0≤(l.length:Int))&&decide ((l.length:Int)≤l.length)&&decide ((8:Int)*l.length≤281474976710656)then
  bif gd427a a (List.replicate l.length 0) l l.length then bif gd427b (l.map fun x=>(leafI a x).1) [] (IntKind.i64.wrap (a+1))then
   some (rlu (treeG (IntKind.i64.wrap (a+1)).toNat (l.map fun x=>(leafI a x).1) []) 0)else none else none else none:=by kernel_rfl
def s427:Sp:= .fn [.v I,.v (.sl U)] fun x=>(true,rlu (treeI x.1 x.2).1 (treeI x.1 x.2).2)
theorem g427:GoodS Tryz.prog N427 s427:=by
 refine good Γ427ok H427 rfl (by kernel_rfl) Λ427 lay427 (fun p hp=> ?_) [.v I,.v (.sl U)] (by decide) [.sl true U,.id] _ fun x r hw e=> ?_
 ·have e:loopsOf 0 (body F427)=[lk427 0,lk427 1,lk427 2]:=by kernel_rfl
  rw[e]at hp
  rcases List.mem_cons.1 hp with rfl|hp
  ·exact loop427a
  rcases List.mem_cons.1 hp with rfl|hp
  ·exact loop427b
  rw[List.mem_singleton.1 hp];exact loop427c
 ·obtain⟨a,l⟩:=x
  cases e
  refine(r427 a l).trans ?_
  show _=some (rlu (treeI a l).1 (treeI a l).2)
  unfold treeI
  cases hc:lchkI a l != 0 with
  |true=>rfl
  |false=>
   have h2:=lchk_ok hc
   obtain⟨hl,h3,_⟩:=lok_len h2
   have h4:=highB_iff.1 (chk_zero h3).1
   have g1:gd427a a (List.replicate l.length 0) l l.length=true:=by
    unfold gd427a
    simp only[Bool.and_eq_true,decide_eq_true_eq,List.all_eq_true]
    exact⟨trivial,by simp,by omega,lok_leaf h2⟩
   have g2:gd427b (l.map fun x=>(leafI a x).1) [] (a+1)=true:=by
    unfold gd427b
    simp only[Bool.and_eq_true,decide_eq_true_eq]
    exact⟨by omega,by omega,by rw[List.length_map];exact hl,rfl⟩
   rw[wrap64 (n:=a+1) (by omega) (by omega),g1,g2,decide_eq_true (show 0≤(l.length:Int) by omega),decide_eq_true (show(l.length:Int)≤l.length by omega),decide_eq_true (show(8:Int)*l.length≤281474976710656 by omega)]
   rfl
def nR8 (n:Nat):Bool:=decide (n*8≤140737488355328)
theorem r413c (n:Int) (xs hs:List Int):runIO (orc []) noL2 3 [] F413 [.one (.int .u64 n),.one (.hot 8 none),.one (.ptr 9 0)] [.arr false U xs,.own [.hot 10 none],.arr false U hs] 2 []=
 bif nR8 (hs.length+xs.length)then some (.tup [],[.arr false U xs,.own [.hot 2 none],.arr true U (hs++xs)])else none:=by kernel_rfl
def s413c:Sp:= .io fun a p gs=>match a,p,gs with
 |[.one (.int .u64 n),.one (.hot 0 none),.one (.ptr 1 0)],2,[.arr false (.int .u64) xs,.own [.hot 2 none],.arr false (.int .u64) hs]=>some (nR8 (hs.length+xs.length),.tup [],[.arr false U xs,.own [.hot 2 none],.arr true U (hs++xs)])
 |_,_,_=>none
theorem g413c:GoodS Tryz.prog N413 s413c:=by
 refine GoodS.io (callable_of H413 (bd rfl) (by kernel_rfl)) fun a p gs r gs' hw1 hw2 h=> ?_
 clear hw1 hw2
 unfold s413c at h
 split at h
 ·rename_i n xs hs
  simp only[Option.some.injEq,Prod.mk.injEq]at h
  obtain⟨h2,rfl,rfl⟩:=h
  have hrun:=r413c n xs hs
  rw[h2]at hrun
  exact goodIO1 (.nil _) H413 rfl noL2 3 [] (noLoops (by kernel_rfl)) [.one (.int .u64 n),.one (.hot 0 none),.one (.ptr 1 0)] [.arr false U xs,.own [.hot 2 none],.arr false U hs] 2
   (ys:=[.one (.int .u64 n),.one (.hot 8 none),.one (.ptr 9 0)]) (hs:=[.arr false U xs,.own [.hot 10 none],.arr false U hs]) rfl rfl rfl (Nat.le_succ 2) (by show 3≤_;decide) (Nat.le_refl 3) [] hrun
 ·cases h
def Γ412:Orc:=orcL 63 [(N427,s427),(N416,s416),(N402,s402u),(N413,s413c)]
theorem Γ412ok:OrcOk Tryz.prog Γ412:=OrcOk.toL 63 (.cons g427 (.cons g416 (.cons g402u (.cons g413c (.nil _)))))
abbrev live412a:List (Nat×Dir):=[(0,.keep),(2,.keep),(6,.keep),(7,.keep),(26,.keep),(27,.keep),(28,.keep),(62,.keep),(63,.keep)]
abbrev live412b:List (Nat×Dir):=[(0,.keep),(2,.keep),(6,.keep),(7,.keep),(10,.keep),(11,.arr U),(26,.keep),(27,.keep),(28,.keep),(32,.keep),(62,.keep),(63,.keep)]
abbrev lay412:List (Nat×List (Nat×Dir)):=[(0,live412a),(2,live412b)]
def fn412:AV:= .one (.fn N413 [.ref 62 0])
def vs412a (a:Int) (t hs t2:List Int) (n i:Int):List AV:=[.one (.int .i64 a),fn412,.one (.int .i64 0),.one (.sl true U none t),.one (.sl true U none t2),.one (.int .i64 n),.one (.int .i64 i),.gho (AV.own [.hot 63 none]).ov,.gho (AV.arr true U hs).ov]
def vs412b (a:Int) (t:List Int) (x:Int) (o hs t2:List Int) (n i j:Int):List AV:=[.one (.int .i64 a),fn412,.one (.int .i64 0),.one (.sl true U none t),.one (.int .u64 x),.arr true U o,.one (.sl true U none t2),.one (.int .i64 n),.one (.int .i64 i),.one (.int .i64 j),.gho (AV.own [.hot 63 none]).ov,.gho (AV.arr true U hs).ov]
noncomputable abbrev lk412 (k:Nat):Nat×Code:=(loopsOf 0 (body F412)).getD k (0,.skip)
noncomputable abbrev lo412a (Λ:Lam (AV×List AV)) (K:AE→List AV→Option (AV×List AV)) (fuel:Nat) (vs:List AV):Option (AV×List AV):=loopN (aexec tb Γ412 Λ ⟨62,2,lay412⟩ (lk412 0).2 0) 62 2 live412a K fuel vs
noncomputable abbrev lo412b (Λ:Lam (AV×List AV)) (K:AE→List AV→Option (AV×List AV)) (fuel:Nat) (vs:List AV):Option (AV×List AV):=loopN (aexec tb Γ412 Λ ⟨62,2,lay412⟩ (lk412 1).2 2) 62 2 live412b K fuel vs
theorem step412b (a:Int) (t:List Int) (x:Int) (o hs t2:List Int) (n i j:Int) (Λ:Lam (AV×List AV)) (K:AE→List AV→Option (AV×List AV)) (fuel:Nat):lo412b Λ K (fuel+1) (vs412b a t x o hs t2 n i j)=
 bif decide (j<2)then bif (childI a x j).2 != 0 then K (.exit 2) (vs412b a t x o hs t2 n i j)else bif decide (t.length≤1000000)then
  bif !foundBu t (childI a x j).1 then bif nR8 (o.length+[(childI a x j).1].length)then lo412b Λ K fuel (vs412b a t x (o++[(childI a x j).1]) hs t2 n i (IntKind.i64.wrap (j+1)))else none
  else lo412b Λ K fuel (vs412b a t x o hs t2 n i (IntKind.i64.wrap (j+1)))else none else K (.exit 2) (vs412b a t x o hs t2 n i j):=by kernel_rfl
def add1 (t o:List Int) (c:Int):List Int:=bif !foundBu t c then o++[c]else o
def kidsL (a:Int) (t:List Int) (x:Int):List Int:=bif (childI a x 0).2 != 0 then []else bif (childI a x 1).2 != 0 then add1 t [] (childI a x 0).1 else add1 t (add1 t [] (childI a x 0).1) (childI a x 1).1
def kidsJ (a:Int) (x:Int):Int:=bif (childI a x 0).2 != 0 then 0 else bif (childI a x 1).2 != 0 then 1 else 2
def Λ412b:Lam (AV×List AV):=fun _ vs K=>
 match vs with
 |[.one (.int .i64 a),.one (.fn f [.ref 62 0]),.one (.int .i64 0),.one (.sl true (.int .u64) none t),.one (.int .u64 x),.arr true (.int .u64) [],.one (.sl true (.int .u64) none t2),.one (.int .i64 n),.one (.int .i64 i),.one (.int .i64 0),.gho (.own [.hot 63 none]),.gho (.arr true (.int .u64) hs)]=>
  bif Nat.beq f N413&&decide (t.length≤1000000)then K (.exit 2) (vs412b a t x (kidsL a t x) hs t2 n i (kidsJ a x))else none
 |_=>none
theorem go412b {ρ:Type} {a:Int} {t:List Int} {x:Int} (ht:t.length≤1000000) {F:Nat→List Int→Int→Option ρ} {K:List Int→Int→Option ρ}
 (step412b: ∀fuel o j,F (fuel+1) o j=bif decide (j<2)then bif (childI a x j).2 != 0 then K o j else bif decide (t.length≤1000000)then
  bif !foundBu t (childI a x j).1 then bif nR8 (o.length+[(childI a x j).1].length)then F fuel (o++[(childI a x j).1]) (IntKind.i64.wrap (j+1))else none
  else F fuel o (IntKind.i64.wrap (j+1))else none else K o j):
 F 3 [] 0=K (kidsL a t x) (kidsJ a x):=by
 have hd:=decide_eq_true ht
 have d0:decide ((0:Int)<2)=true:=rfl
 have d1:decide ((1:Int)<2)=true:=rfl
 have d2:decide ((2:Int)<2)=false:=rfl
 have w0:IntKind.i64.wrap (0+1)=1:=by decide
 have w1:IntKind.i64.wrap (1+1)=2:=by decide
 have r0: ∀(c:Int),nR8 (([]:List Int).length+[c].length)=true:=fun c=>by simp [nR8]
 have r1: ∀(c d:Int),nR8 (([]++[c]:List Int).length+[d].length)=true:=fun c d=>by simp [nR8]
 unfold kidsL kidsJ add1
 rw[step412b,d0,w0,hd,r0]
 cases h0:(childI a x 0).2 != 0 with
 |true=>rfl
 |false=>
  cases f0: !foundBu t (childI a x 0).1 with
  |true=>
   simp only[cond_true,cond_false]
   rw[step412b,d1,w1,hd,r1]
   cases h1:(childI a x 1).2 != 0 with
   |true=>rfl
   |false=>
    cases f1: !foundBu t (childI a x 1).1<;>simp only[cond_true,cond_false]<;>rw[step412b,d2]<;>rfl
  |false=>
   simp only[cond_true,cond_false]
   rw[step412b,d1,w1,hd,r0]
   cases h1:(childI a x 1).2 != 0 with
   |true=>rfl
   |false=>
    cases f1: !foundBu t (childI a x 1).1<;>simp only[cond_true,cond_false]<;>rw[step412b,d2]<;>rfl
def hangG (a:Int) (t:List Int):List Int→List Int→List Int
 |[],hs=>hs
 |x::r,hs=>hangG a t r (hs++kidsL a t x)
def Λ412a:Lam (AV×List AV):=fun _ vs K=>
 match vs with
 |[.one (.int .i64 a),.one (.fn f [.ref 62 0]),.one (.int .i64 0),.one (.sl true (.int .u64) none t),.one (.sl true (.int .u64) none t2),.one (.int .i64 n),.one (.int .i64 0),.gho (.own [.hot 63 none]),.gho (.arr true (.int .u64) hs)]=>
  bif Nat.beq f N413&&(decide (n=t2.length)&&(decide (t.length≤1000000)&&(decide (t2.length≤1000000)&&decide (hs.length≤1000000))))then K (.exit 0) (vs412a a t (hangG a t t2 hs) t2 n n)else none
 |_=>none
def Λ412:Lam (AV×List AV):=fun cur vs K=>match cur with|0=>Λ412a cur vs K|2=>Λ412b cur vs K|_=>none
theorem step412a (a:Int) (t hs t2:List Int) (n i:Int) (K:AE→List AV→Option (AV×List AV)) (fuel:Nat):lo412a Λ412 K (fuel+1) (vs412a a t hs t2 n i)=
 bif decide (i<n)then bif inB i t2.length then bif Nat.beq N413 N413&&decide (t.length≤1000000)then bif nR8 (hs.length+(kidsL a t (bsAu t2 i)).length)then
  lo412a Λ412 K fuel (vs412a a t (hs++kidsL a t (bsAu t2 i)) t2 n (IntKind.i64.wrap (i+1)))else none else none else none else K (.exit 0) (vs412a a t hs t2 n i):=by kernel_rfl
theorem loop412b:LoopP tb Γ412 Λ412 ⟨62,2,lay412⟩ (lk412 1):=by
 intro vs K out h
 have hcur:(lk412 1).1=2:=by kernel_rfl
 rw[hcur]at h⊢
 replace h:Λ412b vs.length vs K=some out:=h
 unfold Λ412b at h
 split at h
 ·rename_i a f t x t2 n i hs
  cases hc:Nat.beq f N413&&decide (t.length≤1000000)with
  |false=>rw[hc]at h;cases h
  |true=>
   rw[hc]at h
   simp only[Bool.and_eq_true,decide_eq_true_eq]at hc
   obtain⟨hf,ht⟩:=hc
   obtain rfl:=Nat.eq_of_beq_eq_true hf
   refine⟨3,Eq.trans ?_ h⟩
   exact go412b ht (F:=fun fuel o j=>lo412b Λ412 K fuel (vs412b a t x o hs t2 n i j)) (K:=fun o j=>K (.exit 2) (vs412b a t x o hs t2 n i j)) (fun fuel o j=>step412b a t x o hs t2 n i j Λ412 K fuel)
 ·cases h
theorem add1_len (t o:List Int) (c:Int):(add1 t o c).length≤o.length+1:=by
 unfold add1
 cases !foundBu t c with
 |true=>simp
 |false=>exact Nat.le_succ _
theorem kidsL_len (a:Int) (t:List Int) (x:Int):(kidsL a t x).length≤2:=by
 unfold kidsL
 have h1:=add1_len t [] (childI a x 0).1
 have h2:=add1_len t (add1 t [] (childI a x 0).1) (childI a x 1).1
 simp only[List.length_nil]at h1
 cases (childI a x 0).2 != 0 with
 |true=>exact Nat.zero_le _
 |false=>
  cases (childI a x 1).2 != 0 with
  |true=>simp only[cond_true,cond_false];omega
  |false=>simp only[cond_false];omega
theorem go412a {ρ:Type} {a:Int} {t t2:List Int} (h1:t.length≤1000000) (h2:t2.length≤1000000) {F:Nat→List Int→Int→Option ρ} {K:List Int→Int→Option ρ} {out:ρ}
 (step: ∀fuel hs i,F (fuel+1) hs i=bif decide (i<(t2.length:Int))then bif inB i t2.length then bif Nat.beq N413 N413&&decide (t.length≤1000000)then bif nR8 (hs.length+(kidsL a t (bsAu t2 i)).length)then
  F fuel (hs++kidsL a t (bsAu t2 i)) (IntKind.i64.wrap (i+1))else none else none else none else K hs i):
 ∀(m j:Nat) (hs:List Int),j+m=t2.length→hs.length≤1000000+2*j→K (hangG a t (t2.drop j) hs) t2.length=some out→ ∃fuel,F fuel hs (j:Int)=some out:=by
 intro m
 induction m with
 |zero=>
  intro j hs hj hl h
  obtain rfl:j=t2.length:=by omega
  rw[List.drop_length]at h
  exact⟨1,by rw[step,nlt_dec];exact h⟩
 |succ m ih=>
  intro j hs hj hl h
  have hlt:j<t2.length:=by omega
  have hk:=kidsL_len a t (bsAu t2 (j:Int))
  have e1:bsAu t2 (j:Int)=t2[j]:=by unfold bsAu;simp [hlt]
  rw[List.drop_eq_getElem_cons hlt,←e1]at h
  obtain⟨fuel,hf⟩:=ih (j+1) (hs++kidsL a t (bsAu t2 (j:Int))) (by omega) (by rw[List.length_append];omega) h
  refine⟨fuel+1, ?_⟩
  have g:nR8 (hs.length+(kidsL a t (bsAu t2 (j:Int))).length)=true:=decide_eq_true (by omega)
  have g2:(Nat.beq N413 N413&&decide (t.length≤1000000))=true:=by rw[decide_eq_true h1];rfl
  rw[step,lt_dec hlt,inB_lt hlt,g2,g,wrap64 (n:=(j:Int)+1) (by omega) (by omega)]
  exact hf
theorem loop412a:LoopP tb Γ412 Λ412 ⟨62,2,lay412⟩ (lk412 0):=by
 intro vs K out h
 have hcur:(lk412 0).1=0:=by kernel_rfl
 rw[hcur]at h⊢
 replace h:Λ412a vs.length vs K=some out:=h
 unfold Λ412a at h
 split at h
 ·rename_i a f t t2 n hs
  cases hc:Nat.beq f N413&&(decide (n=t2.length)&&(decide (t.length≤1000000)&&(decide (t2.length≤1000000)&&decide (hs.length≤1000000))))with
  |false=>rw[hc]at h;cases h
  |true=>
   rw[hc]at h
   simp only[Bool.and_eq_true,decide_eq_true_eq]at hc
   obtain⟨hf,rfl,ht,ht2,hh⟩:=hc
   obtain rfl:=Nat.eq_of_beq_eq_true hf
   exact go412a (a:=a) (t:=t) (t2:=t2) ht ht2 (F:=fun fuel hs i=>lo412a Λ412 K fuel (vs412a a t hs t2 t2.length i)) (K:=fun hs i=>K (.exit 0) (vs412a a t hs t2 t2.length i))
    (fun fuel hs i=>step412a a t hs t2 t2.length i K fuel) t2.length 0 hs (by omega) (by omega) h
 ·cases h
theorem r412 (a:Int) (l hs:List Int):runIO Γ412 Λ412 2 lay412 F412 [.one (.int .i64 a),.one (.sl false U none l),.one (.fn N413 [.ref 62 0])] [.own [.hot 63 none],.arr true U hs] 1 []=
 bif (treeI a l).2 != 0 then some (.one (.int .i64 (treeI a l).2),[.own [.hot 1 none],.arr true U hs])else
 bif Nat.beq N413 N413&&(decide (((treeI a l).1.length :Int)=(treeI a l).1.length)&&(decide ((treeI a l).1.length ≤1000000)&&(decide ((treeI a l).1.length ≤1000000)&&decide (hs.length≤1000000))))then
  some (.one (.int .i64 0),[.own [.hot 1 none],.arr true U (hangG a (treeI a l).1 (treeI a l).1 hs)])else none:=by kernel_rfl
theorem treeG_len: ∀(m:Nat) (lv out:List Int),(treeG m lv out).length≤m*lv.length+out.length:=by
 intro m
 induction m with
 |zero=>intro lv out;show out.length≤_;omega
 |succ m ih=>
  intro lv out
  have h:=ih (upL lv) (lv++out)
  have hu:=Nat.mul_le_mul_left m (upL_len lv)
  rw[List.length_append]at h
  rw[Nat.succ_mul]
  show(treeG m (upL lv) (lv++out)).length≤_
  omega
theorem treeI_len (a:Int) (l:List Int):(treeI a l).1.length ≤100000:=by
 unfold treeI
 cases hc:lchkI a l != 0 with
 |true=>exact Nat.zero_le _
 |false=>
  obtain⟨hl,h3,_⟩:=lok_len (lchk_ok hc)
  have h4:=highB_iff.1 (chk_zero h3).1
  have h:=treeG_len (a+1).toNat (l.map fun x=>(leafI a x).1) []
  rw[List.length_map]at h
  have h5:=Nat.mul_le_mul (show(a+1).toNat≤33 by omega) hl
  show(treeG (a+1).toNat (l.map fun x=>(leafI a x).1) []).length≤_
  simp only[List.length_nil]at h
  omega
def hangT (a:Int) (l:List Int):List Int:=bif (treeI a l).2 != 0 then []else hangG a (treeI a l).1 (treeI a l).1 []
theorem io412 (a:Int) (l:List Int):GoodIO Tryz.prog N412 [.one (.int .i64 a),.one (.sl false U none l),.one (.fn N413 [.ref 0 0])] 1 [.own [.hot 1 none],.arr true U []] (.one (.int .i64 (treeI a l).2)) [.own [.hot 1 none],.arr true U (hangT a l)]:=by
 have hrun:runIO Γ412 Λ412 2 lay412 F412 [.one (.int .i64 a),.one (.sl false U none l),.one (.fn N413 [.ref 62 0])] [.own [.hot 63 none],.arr true U []] 1 []=some (.one (.int .i64 (treeI a l).2),[.own [.hot 1 none],.arr true U (hangT a l)]):=by
  rw[r412]
  unfold hangT
  have hl:=treeI_len a l
  cases hc:(treeI a l).2 != 0 with
  |true=>rfl
  |false=>
   have h0:(treeI a l).2=0:=by simpa using hc
   rw[decide_eq_true (show(treeI a l).1.length ≤1000000 by omega),decide_eq_true (show([]:List Int).length≤1000000 by simp),h0]
   simp only[decide_true,Bool.and_true,cond_false]
   rfl
 exact goodIO1 Γ412ok H412 rfl Λ412 2 lay412 (fun p hp=>by
  have e:loopsOf 0 (body F412)=[lk412 0,lk412 1]:=by kernel_rfl
  rw[e]at hp
  rcases List.mem_cons.1 hp with rfl|hp
  ·exact loop412a
  rw[List.mem_singleton.1 hp];exact loop412b) [.one (.int .i64 a),.one (.sl false U none l),.one (.fn N413 [.ref 0 0])] [.own [.hot 1 none],.arr true U []] 1
  (ys:=[.one (.int .i64 a),.one (.sl false U none l),.one (.fn N413 [.ref 62 0])]) (hs:=[.own [.hot 63 none],.arr true U []]) rfl rfl rfl (Nat.le_succ 1) (by show 3≤_;decide) (Nat.le_refl 2) [] hrun (fun x hx=>by cases hx;decide)
theorem io412n (a:Int) (l:List Int):GoodIO Tryz.prog N412 [.one (.int .i64 a),.one (.sl false U none l),.one (.fn N413 [.ref 0 0])] 1 [.own [.nils]] (.one (.int .i64 (treeI a l).2)) [.own [.hot 1 none],.arr true U (hangT a l)]:=by
 refine GoodIO.nilBox (io412 a l) fun w μ μ' ok vs h0 h=> ?_
 cases h with
 |cons h1 t=>
 cases t with
 |cons h2 t=>
 cases t with
 |cons h3 t=>
 cases t
 refine .cons h1 (.cons h2 (.cons ?_ .nil))
 obtain⟨cs,e,hc⟩:=(h3:SVRel w μ ok (.fn N413 [.ref 0 0]) _)
 refine(⟨cs,e, ?_⟩:SVRel w μ' ok (.fn N413 [.ref 0 0]) _)
 cases hc with
 |cons c1 t=>
  cases t
  refine .cons ?_ .nil
  obtain⟨b,hb,hv⟩:=(c1: ∃b,(μ 0).b=some b∧_)
  exact⟨b,by rw[h0];exact hb,hv⟩
def s412:Sp:= .io fun a p gs=>match a,p,gs with
 |[.one (.int .i64 a),.one (.sl false (.int .u64) none l),.one (.fn f [.ref 0 0])],1,[.own [.nils]]=>bif Nat.beq f N413 then some (true,.one (.int .i64 (treeI a l).2),[.own [.hot 1 none],.arr true U (hangT a l)])else none
 |_,_,_=>none
theorem g412:GoodS Tryz.prog N412 s412:=by
 refine GoodS.io (callable_of H412 (bd rfl) (by kernel_rfl)) fun a p gs r gs' hw1 hw2 h=> ?_
 clear hw1 hw2
 unfold s412 at h
 split at h
 ·rename_i a l f
  cases hf:Nat.beq f N413 with
  |false=>rw[hf]at h;cases h
  |true=>
   rw[hf]at h
   obtain rfl:=Nat.eq_of_beq_eq_true hf
   cases h
   exact io412n a l
 ·cases h
def Γ387:Orc:=orcL 24 [(N400,s400L),(N412,s412)]
def hangI (a:Int) (l:List Int):List Int×Int:=bif (bif lchkI a l==0 then(l.length:Int)==0 else false)then([1],0)else(hangT a l,(treeI a l).2)
theorem r387 (a:Int) (l:List Int):runG Γ387 noL 2 [] F387 [.one (.int .i64 a),.one (.sl false U none l)] [.sl true U,.id]=
 bif (bif lchkI a l==0 then(l.length:Int)==0 else false)then some (rlu [1] 0)else some (rlu (hangT a l) (treeI a l).2):=by kernel_rfl
def s387:Sp:= .fn [.v I,.v (.sl U)] fun x=>(true,rlu (hangI x.1 x.2).1 (hangI x.1 x.2).2)
theorem g387:GoodS Tryz.prog N387 s387:=by
 refine goodG (OrcOk.toL 24 (.cons g400L (.cons g412 (.nil _)))) H387 rfl (by kernel_rfl) noL 2 [] (noLoops (by kernel_rfl)) [.v I,.v (.sl U)] (by decide) [.sl true U,.id] _ (fun x r hw e=> ?_) (fun x hx=>by cases hx;decide)
 obtain⟨a,l⟩:=x
 cases e
 refine(r387 a l).trans ?_
 show _=some (rlu (hangI a l).1 (hangI a l).2)
 unfold hangI
 cases (bif lchkI a l==0 then(l.length:Int)==0 else false)<;>rfl
end Go.AM.Seat
