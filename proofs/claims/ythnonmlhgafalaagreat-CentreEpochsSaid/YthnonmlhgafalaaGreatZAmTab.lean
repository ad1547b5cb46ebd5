import Derived.Test.YthnonmlhgafalaaGreatZAmFn
import Derived.Laws.StructEq
set_option linter.unusedVariables false
set_option linter.unusedSimpArgs false
namespace Go.AM
def flatK (P:Program):Nat→TypeId→Option (List CK)
 |0,_=>none
 |d+1,t=>
  match P.underlying t with
  |some (.int k)=>some [.int k]
  |some .bool=>some [.bool]
  |some .string=>some [.str]
  |some (.struct F)=>bif P.stoodInHeld t then none else go (flatK P d) 0 F.toList
  |some (.array n e)=>
   match flatK P d e with
   |some ks=>bif ((P.info? e).map (·.size))==some ks.length then some (rep n ks)else none
   |none=>none
  |_=>none
where
 go (k:TypeId→Option (List CK)):Nat→List Field→Option (List CK)
  |_,[]=>some []
  |o,f::fs=>
   match k f.type with
   |some ks=>
    bif (f.name != "_")&&Nat.beq f.offset o&&Nat.blt 0 ks.length&&((P.info? f.type).map (·.size)==some ks.length)then
     match go k (o+ks.length) fs with
     |some r=>some (ks++r)
     |none=>none
    else none
   |none=>none
 rep:Nat→List CK→List CK
  |0,_=>[]
  |n+1,ks=>ks++rep n ks
def CellsOk (ks:List CK) (us vs:List Value):Prop:=
 us.length=ks.length∧vs.length=ks.length∧ ∀(i:Nat) (k:CK),ks[i]? =some k→ ∀x y,us[i]? =some x→vs[i]? =some y→CK.ok k x y
theorem rep_length (n:Nat) (ks:List CK):(flatK.rep n ks).length=n*ks.length:=by
 induction n with
 |zero=>simp [flatK.rep]
 |succ n ih=>simp [flatK.rep,ih,Nat.succ_mul,Nat.add_comm]
theorem CellsOk.append {ks ks':List CK} {us vs:List Value} (h:CellsOk (ks++ks') us vs):CellsOk ks (us.take ks.length) (vs.take ks.length)∧CellsOk ks' (us.drop ks.length) (vs.drop ks.length):=by
 obtain⟨h1,h2,h3⟩:=h
 simp only[List.length_append]at h1 h2
 refine⟨⟨by simp;omega,by simp;omega,fun i k hi x y hx hy=> ?_⟩,⟨by simp;omega,by simp;omega,fun i k hi x y hx hy=> ?_⟩⟩
 ·have hlt:i<ks.length:=(List.getElem?_eq_some_iff.1 hi).1
  rw[List.getElem?_take,if_pos hlt]at hx hy
  exact h3 i k (by rw[List.getElem?_append_left hlt];exact hi) x y hx hy
 ·rw[List.getElem?_drop]at hx hy
  exact h3 (ks.length+i) k (by rw[List.getElem?_append_right (by omega),Nat.add_sub_cancel_left];exact hi) x y hx hy
theorem CellsOk.rep {ks:List CK}: ∀ {n:Nat} {us vs:List Value},CellsOk (flatK.rep n ks) us vs→ ∀i,i<n→CellsOk ks ((us.drop (i*ks.length)).take ks.length) ((vs.drop (i*ks.length)).take ks.length):=by
 intro n
 induction n with
 |zero=>intro us vs _ i hi;exact absurd hi (Nat.not_lt_zero _)
 |succ n ih=>
  intro us vs h i hi
  obtain⟨a,b⟩:=CellsOk.append (ks:=ks) (ks':=flatK.rep n ks) h
  cases i with
  |zero=>simpa using a
  |succ i=>
   have:=ih b i (by omega)
   simpa [List.drop_drop,Nat.succ_mul,Nat.add_comm]using this
theorem sameAll_split: ∀(n:Nat) (us vs:List Value),us.length=vs.length→sameAll us vs=(sameAll (us.take n) (vs.take n)&&sameAll (us.drop n) (vs.drop n)):=by
 intro n us
 induction us generalizing n with
 |nil=>intro vs h;cases vs<;>simp [sameAll]at h⊢
 |cons u us ih=>
  intro vs h
  cases vs with
  |nil=>simp at h
  |cons v vs=>
   cases n with
   |zero=>simp [sameAll]
   |succ n=>simp only[List.take_succ_cons,List.drop_succ_cons,sameAll];rw[ih n vs (by simpa using h),Bool.and_assoc]
section
variable {P:Program}
def packs (P:Program) (t:TypeId) (us:List Value) (x:Value):Prop:=
 ∃d,P.underlying t=some d∧((Agg d=true∧x= .agg us.toArray)∨(Agg d=false∧us=[x]))
theorem sameAll_rep (m:Nat): ∀(n:Nat) (us vs:List Value),us.length=n*m→vs.length=n*m→
 sameAll us vs=(List.range n).all fun i=>sameAll ((us.drop (i*m)).take m) ((vs.drop (i*m)).take m):=by
 intro n
 induction n with
 |zero=>intro us vs h h';simp at h h';subst h h';rfl
 |succ n ih=>
  intro us vs h h'
  rw[Nat.succ_mul]at h h'
  rw[sameAll_split m us vs (by omega),ih (us.drop m) (vs.drop m) (by simp;omega) (by simp;omega),List.range_succ_eq_map]
  simp [List.drop_drop,Nat.succ_mul,Nat.add_comm,List.all_map,Function.comp_def]
theorem run_part_packs {t:TypeId} {d:TypeDesc} {m o:Nat} {us:List Value} {w:World} (h1:(P.info? t).map (·.size)=some m) (h3:P.underlying t=some d) (hlen:o+m≤us.length) (hm:Agg d=false→m=1):
 ∃x,(part t us.toArray o).run P w= .ok x w∧packs P t ((us.drop o).take m) x:=by
 obtain⟨i,hi,hsz⟩:=Option.map_eq_some_iff.1 h1
 have hagg:(Go.isAgg t).run P w= .ok (Agg d) w:=by
  simp only[Go.isAgg,underlying,Sem.run_bind,run_program,Result.andThen_ok,h3,Sem.run_pure]
  cases d<;>rfl
 cases hd:Agg d with
 |true=>
  refine⟨.agg ((us.drop o).take m).toArray, ?_,d,h3,.inl ⟨hd,rfl⟩⟩
  simp only[part,Sem.run_bind,hagg,hd,Result.andThen_ok,if_true,Go.sizeOf,typeInfo,run_program,hi,Sem.run_pure,hsz]
  congr 2
  apply Array.ext'
  simp [List.extract_eq_take_drop,Nat.add_sub_cancel_left]
 |false=>
  have hm1:=hm hd
  subst hm1
  have hlt:o<us.length:=by omega
  refine⟨us[o], ?_,d,h3,.inr ⟨hd, ?_⟩⟩
  ·simp [part,hagg,hd,hlt]
  ·rw[List.drop_eq_getElem_cons hlt];rfl
theorem flatK_single {d:Nat} {t:TypeId} {ks:List CK} (h:flatK P d t=some ks): ∃td,P.underlying t=some td∧(Agg td=false→ks.length=1):=by
 cases d with
 |zero=>cases h
 |succ d=>
  simp only[flatK]at h
  split at h<;>rename_i hu
  ·cases h;exact⟨_,hu,fun _=>rfl⟩
  ·cases h;exact⟨_,hu,fun _=>rfl⟩
  ·cases h;exact⟨_,hu,fun _=>rfl⟩
  ·exact⟨_,hu,fun h=>by cases h⟩
  ·exact⟨_,hu,fun h=>by cases h⟩
  ·cases h
theorem forIn_range_eq (len:Nat) (f:Nat→Sem Bool) (w:World) (g:Nat→Bool) (h: ∀i,i<len→(f i).run P w= .ok (g i) w):
 (do
  for i in [0:len] do
   if !(←f i)then return false
  pure true:Sem Bool).run P w= .ok ((List.range len).all g) w:=by
 have key: ∀(l:List Nat),(∀i∈l,(f i).run P w= .ok (g i) w)→(do
  for i in l do
   if !(←f i)then return false
  pure true:Sem Bool).run P w= .ok (l.all g) w:=by
  intro l
  induction l with
  |nil=>intro _;simp
  |cons i l ih=>
   intro hl
   have hi:=hl i (by simp)
   have ih':=ih (fun j hj=>hl j (by simp [hj]))
   simp only[List.forIn_cons,Sem.run_bind,hi,Result.andThen_ok,List.all_cons]
   cases hg:g i with
   |false=>simp [Sem.run_pure]
   |true=>
    simp only[Bool.not_true,Bool.false_eq_true,if_false,Sem.run_pure,Result.andThen_ok,Bool.true_and]
    simpa [Sem.run_bind]using ih'
 have:=key (List.range len) (fun i hi=>h i (List.mem_range.1 hi))
 rw[←this]
 simp [Std.Legacy.Range.forIn_eq_forIn_range',List.range_eq_range',Std.Legacy.Range.size]
theorem flat_eq: ∀(d:Nat) (t:TypeId) (ks:List CK) (us vs:List Value) (x y:Value) (w:World),flatK P d t=some ks→CellsOk ks us vs→packs P t us x→packs P t vs y→
 ∀e,(Op.equalIn (d+e) t x y).run P w= .ok (sameAll us vs) w:=by
 intro d
 induction d with
 |zero=>intro t ks us vs x y w h;cases h
 |succ d ih=>
  intro t ks us vs x y w h hc hx hy e
  obtain⟨td,hu,hx⟩:=hx
  obtain⟨td',hu',hy⟩:=hy
  rw[hu]at hu';cases hu'
  rw[Nat.succ_add]
  have one:Agg td=false→us=[x]∧vs=[y]:=by
   intro ha
   rcases hx with⟨h1,_⟩|⟨_,hx⟩
   ·rw[ha]at h1;cases h1
   rcases hy with⟨h1,_⟩|⟨_,hy⟩
   ·rw[ha]at h1;cases h1
   exact⟨hx,hy⟩
  have two:Agg td=true→x= .agg us.toArray∧y= .agg vs.toArray:=by
   intro ha
   rcases hx with⟨_,hx⟩|⟨h1,_⟩
   ·rcases hy with⟨_,hy⟩|⟨h1,_⟩
    ·exact⟨hx,hy⟩
    ·rw[ha]at h1;cases h1
   ·rw[ha]at h1;cases h1
  simp only[flatK]at h
  split at h<;>rename_i hu2
  ·cases h
   rw[hu]at hu2;cases hu2
   obtain⟨rfl,rfl⟩:=one rfl
   obtain⟨a,b,rfl,rfl⟩:=hc.2.2 0 _ rfl x y rfl rfl
   rw[run_equalIn_int w _ t _ _ a b hu];simp [sameAll,CK.same]
  ·cases h
   rw[hu]at hu2;cases hu2
   obtain⟨rfl,rfl⟩:=one rfl
   obtain⟨a,b,rfl,rfl⟩:=hc.2.2 0 _ rfl x y rfl rfl
   rw[run_equalIn_bool' w _ t a b hu];simp [sameAll,CK.same]
  ·cases h
   rw[hu]at hu2;cases hu2
   obtain⟨rfl,rfl⟩:=one rfl
   obtain⟨a,b,rfl,rfl⟩:=hc.2.2 0 _ rfl x y rfl rfl
   rw[run_equalIn_string w _ t a b hu]
   simp [sameAll,CK.same,beq_toListBytes]
  ·
   rename_i F
   rw[hu]at hu2;cases hu2
   obtain⟨rfl,rfl⟩:=two rfl
   cases hp:P.stoodInHeld t with
   |true=>rw[hp]at h;cases h
   |false=>
    rw[hp]at h
    simp only[cond_false]at h
    have hfo:P.fieldsOf t=F:=by simp [Program.fieldsOf,hu]
    rw[run_equalIn_struct w _ t _ _ (by rw[hfo];exact hu) hp,hfo]
    have fields: ∀(fs:List Field) (o:Nat) (ks:List CK),flatK.go P (flatK P d) o fs=some ks→CellsOk ks (us.drop o) (vs.drop o)→
     (Op.eqFields (d+e) us.toArray vs.toArray fs).run P w= .ok (sameAll (us.drop o) (vs.drop o)) w:=by
     intro fs
     induction fs with
     |nil=>
      intro o ks hk hc
      simp only[flatK.go,Option.some.injEq]at hk
      subst hk
      have h1:us.drop o=[]:=List.eq_nil_of_length_eq_zero hc.1
      have h2:vs.drop o=[]:=List.eq_nil_of_length_eq_zero hc.2.1
      simp [Op.eqFields,h1,h2,sameAll]
     |cons f fs ihf=>
      intro o ks hk hc
      simp only[flatK.go]at hk
      split at hk
      ·rename_i k1 hk1
       cases hb:((f.name != "_")&&Nat.beq f.offset o&&Nat.blt 0 k1.length&&((P.info? f.type).map (·.size)==some k1.length))with
       |false=>simp only[hb,cond_false]at hk;cases hk
       |true=>
        simp only[hb,cond_true]at hk
        simp only[Bool.and_eq_true,beq_iff_eq,bne_iff_ne]at hb
        split at hk
        ·rename_i r hr
         cases hk
         obtain⟨⟨⟨hb1,hb2⟩,hb0⟩,hb3⟩:=hb
         have hb0:0<k1.length:=by simpa [Nat.blt_eq]using hb0
         have hoff:f.offset=o:=Nat.eq_of_beq_eq_true hb2
         obtain⟨c1,c2⟩:=hc.append
         rw[List.drop_drop,List.drop_drop]at c2
         obtain⟨fd,hfu,hfa⟩:=flatK_single hk1
         have hl1:=hc.1
         have hl2:=hc.2.1
         simp only[List.length_drop,List.length_append]at hl1 hl2
         obtain⟨xa,e1,p1⟩:=run_part_packs (us:=us) (w:=w) (o:=o) hb3 hfu (by omega) (fun h=>hfa h)
         obtain⟨ya,e2,p2⟩:=run_part_packs (us:=vs) (w:=w) (o:=o) hb3 hfu (by omega) (fun h=>hfa h)
         have hq:=ih f.type k1 _ _ xa ya w hk1 c1 p1 p2 e
         have hrest:=ihf (o+k1.length) r hr (by rw[Nat.add_comm]at c2;simpa [Nat.add_comm]using c2)
         rw[sameAll_split k1.length _ _ (by simp;omega),List.drop_drop,List.drop_drop]
         simp only[Op.eqFields,if_pos hb1,Sem.run_bind,hoff,e1,e2,hq,Result.andThen_ok]
         cases hs:sameAll ((us.drop o).take k1.length) ((vs.drop o).take k1.length)with
         |false=>simp
         |true=>simpa [Nat.add_comm]using hrest
        ·cases hk
      ·cases hk
    have:=fields F.toList 0 ks h (by simpa using hc)
    simpa using this
  ·
   rename_i n el
   rw[hu]at hu2;cases hu2
   obtain⟨rfl,rfl⟩:=two rfl
   split at h
   ·rename_i k1 hk1
    cases hb:((P.info? el).map (·.size)==some k1.length)with
    |false=>rw[hb]at h;cases h
    |true=>
     rw[hb]at h
     simp only[cond_true,Option.some.injEq]at h
     subst h
     have hb:=eq_of_beq hb
     obtain⟨fd,hfu,hfa⟩:=flatK_single hk1
     obtain⟨ei,hei,hsz⟩:=Option.map_eq_some_iff.1 hb
     have hun:(underlying t).run P w= .ok (.array n el) w:=by simp [underlying,hu]
     simp only[Op.equalIn,Sem.run_bind,hun,Result.andThen_ok,Go.sizeOf,typeInfo,run_program,hei,Sem.run_pure,hsz]
     have hl:=hc.1
     have hl2:=hc.2.1
     rw[rep_length]at hl hl2
     rw[sameAll_rep k1.length n us vs hl hl2]
     have key:=forIn_range_eq (P:=P) n (fun i=>do Op.equalIn (d+e) el (←part el us.toArray (i*k1.length)) (←part el vs.toArray (i*k1.length))) w
      (fun i=>sameAll ((us.drop (i*k1.length)).take k1.length) ((vs.drop (i*k1.length)).take k1.length)) (by
       intro i hi
       have hmul:i*k1.length+k1.length≤n*k1.length:=by
        rw[←Nat.succ_mul];exact Nat.mul_le_mul_right _ hi
       obtain⟨xa,e1,p1⟩:=run_part_packs (us:=us) (w:=w) (o:=i*k1.length) hb hfu (by omega) (fun h=>hfa h)
       obtain⟨ya,e2,p2⟩:=run_part_packs (us:=vs) (w:=w) (o:=i*k1.length) hb hfu (by omega) (fun h=>hfa h)
       simp only[Sem.run_bind,e1,e2,Result.andThen_ok]
       exact ih el k1 _ _ xa ya w hk1 (hc.rep i hi) p1 p2 e)
     rw[←key]
     simp [Sem.run_bind]
   ·cases h
  ·cases h
end
def Ty.dfltB:Ty→List Value→Option (List Value)
 | .unit,vs=>some vs
 | .int k,.int k' n::r=>bif decide (k=k')&&decide (n=0)then some r else none
 | .bool,.bool b::r=>bif b then none else some r
 | .str,.string s::r=>bif s.size==0 then some r else none
 | .pair a b,vs=>match a.dfltB vs with
   |some r=>b.dfltB r
   |none=>none
 | .sl _,.slice none 0 0::r=>some r
 |_,_=>none
theorem Ty.dfltB_ok {w:World} {ok:Nat→Prop}: ∀ {t:Ty} {vs r:List Value},t.dfltB vs=some r→ ∃us,vs=us++r∧TRel w ok t t.dflt us
 | .int k,vs,r,h=>by
   unfold Ty.dfltB at h
   split at h<;>rename_i h1<;>try (cases h1)
   all_goals (try cases h)
   rename_i k' n r'
   simp only[cond_eq_ite]at h
   split at h
   ·rename_i hb
    simp only[Bool.and_eq_true,decide_eq_true_eq]at hb
    obtain⟨rfl,rfl⟩:=hb
    cases h
    exact⟨[.int _ 0],rfl,rfl,by cases k<;>simp [IntKind.has,Ty.dflt,IntKind.min,IntKind.max]<;>decide⟩
   ·cases h
 | .bool,vs,r,h=>by
   unfold Ty.dfltB at h
   split at h<;>rename_i h1<;>try (cases h1)
   all_goals (try cases h)
   rename_i b r'
   cases b with
   |true=>cases h
   |false=>cases h;exact⟨[.bool false],rfl,rfl⟩
 | .str,vs,r,h=>by
   unfold Ty.dfltB at h
   split at h<;>rename_i h1<;>try (cases h1)
   all_goals (try cases h)
   rename_i s r'
   simp only[cond_eq_ite]at h
   split at h
   ·rename_i hb
    cases h
    have hs:s=ByteArray.empty:=by
     have:s.size=0:=by simpa using hb
     exact ByteArray.size_eq_zero_iff.1 this
    subst hs
    exact⟨[.string ByteArray.empty],rfl,rfl,by decide⟩
   ·cases h
 | .unit,vs,r,h=>by
   cases h
   exact⟨[],rfl,rfl⟩
 | .pair a b,vs,r,h=>by
   simp only[Ty.dfltB]at h
   split at h
   ·rename_i r1 h1
    obtain⟨u,rfl,hu⟩:=Ty.dfltB_ok (w:=w) (ok:=ok) h1
    obtain⟨v,rfl,hv⟩:=Ty.dfltB_ok (w:=w) (ok:=ok) h
    exact⟨u++v,by simp,u,v,rfl,hu,hv⟩
   ·cases h
 | .sl t,vs,r,h=>by
   unfold Ty.dfltB at h
   split at h<;>rename_i h1<;>try (cases h1)
   all_goals (try cases h)
   exact⟨[.slice none 0 0],rfl,none,0,rfl,by simp [Ty.dflt],by simp,.inl ⟨rfl,rfl,rfl⟩⟩
def tyNest:List (Option Ty)→Option Ty
 |[]=>none
 |[a]=>a
 |a::r=>match a,tyNest r with
  |some a,some b=>some (.pair a b)
  |_,_=>none
def typOf (P:Program):Nat→TypeId→Option Ty
 |0,_=>none
 |d+1,t=>
  match P.underlying t with
  |some (.struct #[])=>some .unit
  |some (.int k)=>some (.int k)
  |some .bool=>some .bool
  |some .string=>some .str
  |some (.slice e)=>(typOf P d e).map .sl
  |some (.struct F)=>tyNest (F.toList.map fun f=>typOf P d f.type)
  |some (.array n e)=>tyNest (List.replicate n (typOf P d e))
  |_=>none
def fieldsB (P:Program):List Field→Option (List (Nat×Nat×Bool))
 |[]=>some []
 |f::fs=>
  match P.info? f.type,P.underlying f.type,fieldsB P fs with
  |some i,some d,some r=>bif Nat.blt 0 i.size then some ((f.offset,i.size,Agg d)::r)else none
  |_,_,_=>none
def scalB (z:SV) (d:TypeDesc):Bool:=
 match z,d with
 | .int k _,.int k'=>decide (k=k')
 | .bool _,.bool=>true
 | .str _,.string=>true
 | .int _ _,_=>false
 | .bool _,_=>false
 | .str _,_=>false
 | .junk,_=>false
 |_,_=>true
def eqkB (P:Program) (T:TypeId):Option (List CK):=
 bif P.eqGuardType P.depth T then none else
 match P.underlying T with
 |some (.struct _)=>flatK P 8 T
 |some (.array _ _)=>flatK P 8 T
 |_=>none
theorem eqkB_ok {P:Program} {T:TypeId} {ks:List CK} (h:eqkB P T=some ks):EqOk P T ks:=by
 intro w xs ys h1 h2 h3
 unfold eqkB at h
 cases hg:P.eqGuardType P.depth T with
 |true=>rw[hg]at h;cases h
 |false=>
  rw[hg]at h
  simp only[cond_false]at h
  have fin:flatK P 8 T=some ks→(∃td,P.underlying T=some td∧Agg td=true)→(Op.equal T (.agg xs.toArray) (.agg ys.toArray)).run P w= .ok (sameAll xs ys) w:=by
   intro hk ⟨td,hu,ha⟩
   exact flat_eq 8 T ks xs ys _ _ w hk ⟨h1,h2,h3⟩ ⟨td,hu,.inl ⟨ha,rfl⟩⟩ ⟨td,hu,.inl ⟨ha,rfl⟩⟩ 9992
  split at h
  ·rename_i hu;exact⟨fin h ⟨_,hu,rfl⟩,rfl⟩
  ·rename_i hu;exact⟨fin h ⟨_,hu,rfl⟩,rfl⟩
  ·cases h
def ckOf:Ty→List CK
 | .int k=>[.int k]
 | .bool=>[.bool]
 | .str=>[.str]
 | .unit=>[]
 | .pair a b=>ckOf a++ckOf b
 | .sl _=>[]
def plainD:TypeDesc→Bool
 | .int _=>true
 | .bool=>true
 | .string=>true
 |_=>false
def keyB (P:Program) (kT:TypeId) (kt:Ty):Bool:=
 match P.underlying kT with
 |some (.int k)=>decide (kt= .int k)
 |some .string=>decide (kt= .str)
 |some .bool=>decide (kt= .bool)
 |some (.struct F)=>kt.isAgg&&kt.flat&&(eqkB P kT==some (ckOf kt))&&F.toList.all (fun f=>match P.underlying f.type,P.info? f.type with
  |some d,some i=>plainD d&&Nat.beq i.size 1&&Nat.blt f.offset kt.size
  |_,_=>false)
 |_=>false
def dfltVB (t:Ty) (zv:Value):Bool:=
 match t.isAgg,zv with
 |true,.agg cs=>match t.dfltB cs.toList with
  |some []=>true
  |_=>false
 |false,v=>match t.dfltB [v]with
  |some []=>true
  |_=>false
 |_,_=>false
theorem dfltVB_ok {t:Ty} {zv:Value} (h:dfltVB t zv=true) (w:World) (ok:Nat→Prop):VRel w ok t t.dflt zv:=by
 unfold dfltVB at h
 split at h
 ·rename_i cs ha
  split at h
  ·rename_i hd
   obtain⟨us,he,ht⟩:=Ty.dfltB_ok (w:=w) (ok:=ok) hd
   rw[VRel.agg ha]
   refine⟨us, ?_,ht⟩
   rw[List.append_nil]at he
   rw[←he]
  ·cases h
 ·rename_i ha
  split at h
  ·rename_i hd
   obtain⟨us,he,ht⟩:=Ty.dfltB_ok (w:=w) (ok:=ok) hd
   rw[VRel.one ha]
   rw[List.append_nil]at he
   rw[he];exact ht
  ·cases h
 ·cases h
theorem ck_length: ∀ {t:Ty},t.flat=true→(ckOf t).length=t.size
 | .int _,_=>rfl
 | .bool,_=>rfl
 | .str,_=>rfl
 | .unit,_=>rfl
 | .pair a b,h=>by
   simp only[Ty.flat,Bool.and_eq_true]at h
   simp [ckOf,Ty.size,ck_length h.1,ck_length h.2]
 | .sl _,h=>by cases h
theorem cells_ck {w w':World} {ok ok':Nat→Prop}: ∀ {t:Ty} {x y:t.D} {us vs:List Value},t.flat=true→TRel w ok t x us→TRel w' ok' t y vs→CellsOk (ckOf t) us vs∧sameAll us vs=eqD t x y
 | .int k,x,y,us,vs,_,h,h'=>by
   obtain⟨rfl,_⟩:=h
   obtain⟨rfl,_⟩:=h'
   refine⟨⟨rfl,rfl,fun i c hi a b ha hb=> ?_⟩,by simp [sameAll,CK.same,eqD]⟩
   cases i with
   |zero=>cases hi;cases ha;cases hb;exact⟨_,_,rfl,rfl⟩
   |succ i=>simp [ckOf]at hi
 | .bool,x,y,us,vs,_,h,h'=>by
   obtain rfl:us=[.bool x]:=h
   obtain rfl:vs=[.bool y]:=h'
   refine⟨⟨rfl,rfl,fun i c hi a b ha hb=> ?_⟩,by simp [sameAll,CK.same,eqD]⟩
   cases i with
   |zero=>cases hi;cases ha;cases hb;exact⟨_,_,rfl,rfl⟩
   |succ i=>simp [ckOf]at hi
 | .str,x,y,us,vs,_,h,h'=>by
   obtain⟨rfl,_⟩:=h
   obtain⟨rfl,_⟩:=h'
   refine⟨⟨rfl,rfl,fun i c hi a b ha hb=> ?_⟩, ?_⟩
   ·cases i with
    |zero=>cases hi;cases ha;cases hb;exact⟨_,_,rfl,rfl⟩
    |succ i=>simp [ckOf]at hi
   ·simp only[sameAll,CK.same,Bool.and_true,eqD];exact beq_toListBytes x y
 | .unit,x,y,us,vs,_,h,h'=>by
   obtain rfl:us=[]:=h
   obtain rfl:vs=[]:=h'
   exact⟨⟨rfl,rfl,fun i c hi=>by simp [ckOf]at hi⟩,rfl⟩
 | .pair a b,x,y,us,vs,hf,h,h'=>by
   simp only[Ty.flat,Bool.and_eq_true]at hf
   obtain⟨u1,u2,rfl,h1,h2⟩:=h
   obtain⟨v1,v2,rfl,h1',h2'⟩:=h'
   obtain⟨c1,s1⟩:=cells_ck hf.1 h1 h1'
   obtain⟨c2,s2⟩:=cells_ck hf.2 h2 h2'
   have l1:=h1.length
   have l1':=h1'.length
   have l2:=h2.length
   have l2':=h2'.length
   have lc:=ck_length hf.1
   refine⟨⟨by simp [ckOf,c1.1,c2.1],by simp [ckOf,c1.2.1,c2.2.1],fun i k hi p q hp hq=> ?_⟩, ?_⟩
   ·simp only[ckOf]at hi
    rcases Nat.lt_or_ge i (ckOf a).length with hl|hl
    ·rw[List.getElem?_append_left hl]at hi
     rw[List.getElem?_append_left (by omega)]at hp hq
     exact c1.2.2 i k hi p q hp hq
    ·rw[List.getElem?_append_right hl]at hi
     rw[List.getElem?_append_right (by omega)]at hp hq
     rw[l1,←lc]at hp
     rw[l1',←lc]at hq
     exact c2.2.2 _ k hi p q hp hq
   ·rw[sameAll_split u1.length _ _ (by simp;omega)]
    simp only[List.take_left',List.drop_left']
    rw[show(v1++v2).take u1.length=v1 by rw[l1,←l1'];simp,show(v1++v2).drop u1.length=v2 by rw[l1,←l1'];simp,s1,s2]
    rfl
 | .sl _,_,_,_,_,h,_,_=>by cases h
theorem keyB_ok {P:Program} {kT:TypeId} {kt:Ty} (h:keyB P kT kt=true):KeyOk P kT kt:=by
 have scal: ∀d,P.underlying kT=some d→plainD d=true→kt.flat=true→kt.isAgg=false→
  (∀(w:World) (okf:Nat→Prop) (x y:kt.D) (u v:Value),VRel w okf kt x u→VRel w okf kt y v→Instr.sameNow d u v=some (eqD kt x y))→KeyOk P kT kt:=by
  intro d hu hd hf ha hs
  refine⟨hf,fun w w' okf x v b hv=> ?_,d,hu,.inl hs⟩
  rw[VRel.one ha]at hv
  unfold Instr.checkKey
  simp only[underlying,Sem.run_bind,run_program,Result.andThen_ok,hu,Sem.run_pure]
  cases d<;>first|(cases v<;>simp;done)|cases hd
 unfold keyB at h
 split at h<;>rename_i hu
 ·rename_i k
  obtain rfl:kt= .int k:=of_decide_eq_true h
  refine scal _ hu rfl rfl rfl fun w okf x y u v h1 h2=> ?_
  obtain⟨h1,_⟩:=(h1:TRel w okf (.int k) x [u])
  obtain⟨h2,_⟩:=(h2:TRel w okf (.int k) y [v])
  simp only[List.cons.injEq,and_true]at h1 h2
  subst h1 h2
  simp [Instr.sameNow,eqD]
 ·obtain rfl:kt= .str:=of_decide_eq_true h
  refine scal _ hu rfl rfl rfl fun w okf x y u v h1 h2=> ?_
  obtain⟨h1,_⟩:=(h1:TRel w okf .str x [u])
  obtain⟨h2,_⟩:=(h2:TRel w okf .str y [v])
  simp only[List.cons.injEq,and_true]at h1 h2
  subst h1 h2
  simp only[Instr.sameNow,eqD]
  rw[beq_toListBytes]
 ·obtain rfl:kt= .bool:=of_decide_eq_true h
  refine scal _ hu rfl rfl rfl fun w okf x y u v h1 h2=> ?_
  have h1:TRel w okf .bool x [u]:=h1
  have h2:TRel w okf .bool y [v]:=h2
  simp only[TRel,List.cons.injEq,and_true]at h1 h2
  subst h1 h2
  simp [Instr.sameNow,eqD]
 ·rename_i F
  simp only[Bool.and_eq_true]at h
  obtain⟨⟨⟨ha,hf⟩,hE⟩,hF⟩:=h
  have hE:=eqkB_ok (eq_of_beq hE)
  refine⟨hf,fun w w' okf x v b hv=> ?_,_,hu,.inr ⟨fun u v=> ?_,fun w w' okf x y u v h1 h2=> ?_⟩⟩
  ·rw[VRel.agg ha]at hv
   obtain⟨vs,rfl,ht⟩:=hv
   have hl:=ht.length
   have key: ∀(fs:List Field),(fs.all (fun f=>match P.underlying f.type,P.info? f.type with
    |some d,some i=>plainD d&&Nat.beq i.size 1&&Nat.blt f.offset kt.size
    |_,_=>false))=true→(forIn fs PUnit.unit (fun f r=>do
     if f.name≠ "_" then Instr.checkKey b 9999 f.type (←part f.type vs.toArray f.offset)
     pure (.yield PUnit.unit)):Sem PUnit).run P w'= .ok PUnit.unit w':=by
    intro fs
    induction fs with
    |nil=>intro _;simp
    |cons f fs ih=>
     intro hall
     simp only[List.all_cons,Bool.and_eq_true]at hall
     obtain⟨h1,h2⟩:=hall
     split at h1
     ·rename_i d i hd hi
      simp only[Bool.and_eq_true]at h1
      obtain⟨⟨p1,p2⟩,p3⟩:=h1
      have p3:f.offset<kt.size:=by simpa [Nat.blt_eq]using p3
      have hagg:Agg d=false:=by cases d<;>first|rfl|cases p1
      obtain⟨z,e1,_⟩:=run_part_packs (us:=vs) (w:=w') (o:=f.offset) (m:=1) (t:=f.type) (by rw[hi];simp [Nat.eq_of_beq_eq_true p2]) hd (by omega) (fun _=>rfl)
      have hck:(Instr.checkKey b 9999 f.type z).run P w'= .ok () w':=by
       unfold Instr.checkKey
       simp only[underlying,Sem.run_bind,run_program,Result.andThen_ok,hd,Sem.run_pure]
       cases d<;>first|(cases z<;>simp;done)|cases p1
      rw[List.forIn_cons]
      by_cases hn:f.name≠ "_"
      ·simp only[if_pos hn,Sem.run_bind,e1,Result.andThen_ok,hck,Sem.run_pure]
       exact ih h2
      ·simp only[if_neg hn,Sem.run_bind,Sem.run_pure]
       exact ih h2
     ·cases h1
   have:=key F.toList hF
   unfold Instr.checkKey
   simp only[underlying,Sem.run_bind,run_program,Result.andThen_ok,hu,Sem.run_pure]
   simp only[←Array.forIn_toList,this,Result.andThen_ok]
  ·cases u<;>cases v<;>simp [Instr.sameNow]
  ·rw[VRel.agg ha]at h1 h2
   obtain⟨us,rfl,t1⟩:=h1
   obtain⟨vs,rfl,t2⟩:=h2
   obtain⟨c,e⟩:=cells_ck hf t1 t2
   rw[←e]
   exact(hE w' us vs c.1 c.2.1 c.2.2).1
 ·cases h
def mkTI (P:Program) (T:TypeId):Option TI:=
 match P.info? T with
 |none=>none
 |some i=>
  match i.zero,P.underlying T with
  |some (.map none),some (.map kT vT)=>
   match typOf P 8 kT,typOf P 8 vT,P.info? vT with
   |some kt,some vt,some vi=>
    match vi.zero with
    |some zv=>bif Nat.beq i.size 1&&keyB P kT kt&&dfltVB vt zv then some (.map kt vt)else none
    |none=>none
   |_,_,_=>none
  |_,some (.map _ _)=>none
  |some zv,some (.struct F)=>
   match cv zv,fieldsB P F.toList with
   | .agg z,some fs=>bif Nat.beq z.length i.size then some (.struct i.size z fs (eqkB P T))else none
   |_,_=>none
  |some zv,some (.array n e)=>
   match cv zv,P.info? e,P.underlying e with
   | .agg z,some ei,some ed=>bif Nat.beq z.length n&&Nat.beq i.size n&&Nat.beq ei.size 1&& !Agg ed then some (.array n z (eqkB P T))else none
   |_,_,_=>none
  |some (.slice none 0 0),some (.slice e)=>
   match typOf P 8 e,P.info? e with
   |some t,some ei=>
    match ei.zero with
    |some ze=>
     match t.dfltB ze.cells.toList with
     |some []=>bif Nat.beq i.size 1&&Nat.beq ei.size t.size&&Nat.blt 0 ei.bytes&&Nat.blt 0 t.size then some (.slice e t ei.bytes)else none
     |_=>none
    |none=>none
   |_,_=>none
  |some zv,some d=>
   match cv zv with
   | .one z=>bif Nat.beq i.size 1&& !Agg d&&scalB z d then some (.scal z)else none
   |_=>none
  |_,_=>none
def mkTab (P:Program):List TypeId→Option Tab
 |[]=>some []
 |T::Ts=>match mkTI P T,mkTab P Ts with
  |some i,some r=>some ((T,i)::r)
  |_,_=>none
theorem fieldsB_ok {P:Program}: ∀ {F:List Field} {fs:List (Nat×Nat×Bool)},fieldsB P F=some fs→F.length=fs.length∧
 ∀(j o m:Nat) (b:Bool),fs[j]? =some (o,m,b)→ ∃(f:Field) (fi:TypeInfo) (fd:TypeDesc),F[j]? =some f∧f.offset=o∧P.info? f.type=some fi∧fi.size=m∧0<m∧P.underlying f.type=some fd∧Agg fd=b:=by
 intro F
 induction F with
 |nil=>intro fs h;cases h;exact⟨rfl,fun j o m b h=>by simp at h⟩
 |cons f F ih=>
  intro fs h
  simp only[fieldsB]at h
  split at h
  ·rename_i i d r hi hd hr
   cases hb:Nat.blt 0 i.size with
   |false=>rw[hb]at h;cases h
   |true=>
    rw[hb]at h
    cases h
    obtain⟨l,hf⟩:=ih hr
    refine⟨by simp [l],fun j o m b hj=> ?_⟩
    cases j with
    |zero=>
     simp only[List.getElem?_cons_zero,Option.some.injEq,Prod.mk.injEq]at hj
     obtain⟨rfl,rfl,rfl⟩:=hj
     exact⟨f,i,d,rfl,rfl,hi,rfl,by simpa [Nat.blt_eq]using hb,hd,rfl⟩
    |succ j=>simpa using hf j o m b (by simpa using hj)
  ·cases h
theorem mkTI_ok {P:Program} {T:TypeId} {ti:TI} (h:mkTI P T=some ti):TIOk P T ti:=by
 unfold mkTI at h
 split at h
 ·cases h
 ·rename_i i hi
  split at h
  ·rename_i kT vT hz hu
   split at h
   ·rename_i kt vt vi hk hv hvi
    split at h
    ·rename_i zv hzv
     cases hb:(Nat.beq i.size 1&&keyB P kT kt&&dfltVB vt zv)with
     |false=>rw[hb]at h;cases h
     |true=>
      rw[hb]at h;cases h
      simp only[Bool.and_eq_true]at hb
      obtain⟨⟨b1,b2⟩,b3⟩:=hb
      exact⟨i,kT,vT,vi,zv,hi,Nat.eq_of_beq_eq_true b1,hz,hu,keyB_ok b2,hvi,hzv,dfltVB_ok b3⟩
    ·cases h
   ·cases h
  ·cases h
  ·rename_i zv F hz hu
   split at h
   ·rename_i z fs hc hf
    cases hb:Nat.beq z.length i.size with
    |false=>rw[hb]at h;cases h
    |true=>
     rw[hb]at h;cases h
     obtain⟨hl,hff⟩:=fieldsB_ok hf
     exact⟨i,F,zv,hi,rfl,hu,hz,hc,Nat.eq_of_beq_eq_true hb,by simpa using hl,fun j o m b hj=>by simpa using hff j o m b hj,fun ks hk=>eqkB_ok hk⟩
   ·cases h
  ·rename_i zv n e hz hu
   split at h
   ·rename_i z ei ed hc hei hed
    cases hb:(Nat.beq z.length n&&Nat.beq i.size n&&Nat.beq ei.size 1&& !Agg ed)with
    |false=>rw[hb]at h;cases h
    |true=>
     rw[hb]at h;cases h
     simp only[Bool.and_eq_true,Bool.not_eq_true']at hb
     obtain⟨⟨⟨b1,b2⟩,b3⟩,b4⟩:=hb
     exact⟨i,zv,e,ei,ed,hi,Nat.eq_of_beq_eq_true b2,hu,hz,hc,Nat.eq_of_beq_eq_true b1,hei,Nat.eq_of_beq_eq_true b3,hed,b4,fun ks hk=>eqkB_ok hk⟩
   ·cases h
  ·rename_i e hz hu
   split at h
   ·rename_i t ei ht hei
    split at h
    ·rename_i ze hze
     split at h
     ·rename_i hd
      cases hb:(Nat.beq i.size 1&&Nat.beq ei.size t.size&&Nat.blt 0 ei.bytes&&Nat.blt 0 t.size)with
      |false=>rw[hb]at h;cases h
      |true=>
       rw[hb]at h;cases h
       simp only[Bool.and_eq_true]at hb
       obtain⟨⟨⟨b1,b2⟩,b3⟩,b4⟩:=hb
       refine⟨i,ei,ze,hi,Nat.eq_of_beq_eq_true b1,hz,hu,hei,Nat.eq_of_beq_eq_true b2,rfl,hze,fun w ok=> ?_,by simpa [Nat.blt_eq]using b3,by simpa [Nat.blt_eq]using b4⟩
       obtain⟨us,he,ht⟩:=Ty.dfltB_ok (w:=w) (ok:=ok) hd
       rw[he,List.append_nil];exact ht
     ·cases h
    ·cases h
   ·cases h
  ·rename_i zv d hm1 hm2 h1 h2 h3 hz hu
   split at h
   ·rename_i z hc
    cases hb:(Nat.beq i.size 1&& !Agg d&&scalB z d)with
    |false=>rw[hb]at h;cases h
    |true=>
     rw[hb]at h;cases h
     simp only[Bool.and_eq_true,Bool.not_eq_true']at hb
     obtain⟨⟨b1,b2⟩,b3⟩:=hb
     refine⟨i,d,zv,hi,Nat.eq_of_beq_eq_true b1,hu,b2,hz,hc, ?_, ?_, ?_, ?_⟩
     ·rintro rfl;simp [scalB]at b3
     ·rintro k n rfl;unfold scalB at b3;split at b3<;>simp_all
     ·rintro b rfl;unfold scalB at b3;split at b3<;>simp_all
     ·rintro s rfl;unfold scalB at b3;split at b3<;>simp_all
   ·cases h
  ·cases h
theorem mkTab_ok {P:Program}: ∀ {Ts:List TypeId} {tb:Tab},mkTab P Ts=some tb→TabOk P tb:=by
 intro Ts
 induction Ts with
 |nil=>intro tb h;cases h;exact .nil P
 |cons T Ts ih=>
  intro tb h
  simp only[mkTab]at h
  split at h
  ·rename_i i r hi hr
   cases h
   exact .cons (mkTI_ok hi) (ih hr)
  ·cases h
def typC (P:Program):Nat→TypeId→Option Ty
 |0,_=>none
 |d+1,t=>
  match P.underlying t with
  |some (.int k)=>some (.int k)
  |some .bool=>some .bool
  |some .string=>some .str
  |some (.slice e)=>
   match typC P d e with
   |some te=>bif Nat.beq (P.cellsOf e) te.size&&Nat.blt 0 te.size then some (.sl te)else none
   |none=>none
  |some (.struct F)=>
   match fieldsC (typC P d) 0 F.toList with
   |some ty=>bif Nat.beq (P.cellsOf t) ty.size then some ty else none
   |none=>none
  |some (.array n e)=>
   match typC P d e with
   |some te=>bif Nat.beq (P.cellsOf e) te.size then
     match repC n te with
     |some ty=>bif Nat.beq (P.cellsOf t) ty.size then some ty else none
     |none=>none
    else none
   |none=>none
  |_=>none
where
 fieldsC (k:TypeId→Option Ty):Nat→List Field→Option Ty
  |_,[]=>none
  |o,[f]=>
   match k f.type with
   |some a=>bif Nat.beq f.offset o&&Nat.beq (P.cellsOf f.type) a.size then some a else none
   |none=>none
  |o,f::fs=>
   match k f.type,fieldsC k (o+P.cellsOf f.type) fs with
   |some a,some b=>bif Nat.beq f.offset o&&Nat.beq (P.cellsOf f.type) a.size then some (.pair a b)else none
   |_,_=>none
 repC:Nat→Ty→Option Ty
  |0,_=>none
  |1,t=>some t
  |n+1,t=>match repC n t with
   |some r=>some (.pair t r)
   |none=>none
theorem mapM_spec {α β:Type} {f:α→Option β}: ∀ {l:List α} {r:List β},l.mapM f=some r→All2 (fun a b=>f a=some b) l r:=by
 intro l
 induction l with
 |nil=>intro r h;simp at h;subst h;exact .nil
 |cons a l ih=>
  intro r h
  simp only[List.mapM_cons,Option.bind_eq_bind,Option.bind_eq_some_iff,Option.pure_def,Option.some.injEq]at h
  obtain⟨b,hb,r',hr,rfl⟩:=h
  exact .cons hb (ih hr)
section
variable {H:Type} {enc:TypeId×Value→H} {P:Program} {w:World} {base:Nat} {spare:Nat→Bool} {held:Bool}
theorem all2_range {β:Type} {R:Nat→β→Prop} {n:Nat} {r:List β} (h:All2 R (List.range n) r):r.length=n∧ ∀i b,r[i]? =some b→R i b:=by
 refine⟨by rw[←h.length,List.length_range],fun i b hi=> ?_⟩
 have hlt:i<n:=by
  have:=(List.getElem?_eq_some_iff.1 hi).1
  rw[←h.length,List.length_range]at this;exact this
 obtain⟨b',h1,h2⟩:=h.get i i (by simp [hlt])
 rw[hi]at h1;cases h1;exact h2
theorem cells_spec {a:Addr} {n:Nat} {cs:List Value} (h:w.cells? base a n=some cs):cs.length=n∧ ∀q (hq:q<cs.length),w.cell? (a.add q)=some cs[q]:=by
 unfold World.cells? at h
 split at h
 ·obtain⟨h1,h2⟩:=all2_range (mapM_spec h)
  exact⟨h1,fun q hq=>h2 q _ (by simp [hq])⟩
 ·cases h
theorem list_choice {α:Type} {R:Nat→α→Prop}: ∀ {n:Nat},(∀i,i<n→ ∃v,R i v)→ ∃xs:List α,xs.length=n∧ ∀j (h:j<xs.length),R j xs[j]:=by
 intro n
 induction n generalizing R with
 |zero=>intro _;exact⟨[],rfl,fun j h=>by simp at h⟩
 |succ n ih=>
  intro h
  obtain⟨v,hv⟩:=h 0 (by omega)
  obtain⟨xs,h1,h2⟩:=ih (R:=fun i=>R (i+1)) fun i hi=>h (i+1) (by omega)
  refine⟨v::xs,by simp [h1],fun j hj=> ?_⟩
  cases j with
  |zero=>exact hv
  |succ j=>exact h2 j (by simpa using hj)
theorem cell_lt {a:Addr} {v:Value} (h:w.cell? a=some v):a.spot=none∧a.block<w.heap.size:=by
 unfold World.cell? at h
 split at h
 ·rename_i c _ _ hb
  split at h
  ·cases h
  ·rename_i hs
   exact⟨by cases hh:a.spot with
    |none=>rfl
    |some x=>rw[hh]at hs;simp at hs,(Array.getElem?_eq_some_iff.1 hb).1⟩
 ·cases h
theorem fields_rel {ok:Nat→Prop} {k:TypeId→Option Ty} {cs:List Value}: ∀(fs:List Field) (o:Nat) (ty:Ty),typC.fieldsC P k o fs=some ty→
 (∀f∈fs,∀a,k f.type=some a→ ∃v:a.D,TRel w ok a v ((cs.drop f.offset).take (P.cellsOf f.type)))→ ∃v:ty.D,TRel w ok ty v ((cs.drop o).take ty.size):=by
 intro fs
 induction fs with
 |nil=>intro o ty h;cases h
 |cons f fs ih=>
  intro o ty h hf
  cases fs with
  |nil=>
   simp only[typC.fieldsC]at h
   split at h
   ·rename_i a ha
    cases hb:(Nat.beq f.offset o&&Nat.beq (P.cellsOf f.type) a.size)with
    |false=>rw[hb]at h;cases h
    |true=>
     rw[hb]at h;cases h
     simp only[Bool.and_eq_true]at hb
     have h1:=Nat.eq_of_beq_eq_true hb.1
     have h2:=Nat.eq_of_beq_eq_true hb.2
     obtain⟨v,hv⟩:=hf f (by simp) _ ha
     exact⟨v,by rw[←h1,←h2];exact hv⟩
   ·cases h
  |cons f' fs=>
   simp only[typC.fieldsC]at h
   split at h
   ·rename_i a b ha hb'
    cases hb:(Nat.beq f.offset o&&Nat.beq (P.cellsOf f.type) a.size)with
    |false=>rw[hb]at h;cases h
    |true=>
     rw[hb]at h;cases h
     simp only[Bool.and_eq_true]at hb
     have h1:=Nat.eq_of_beq_eq_true hb.1
     have h2:=Nat.eq_of_beq_eq_true hb.2
     obtain⟨v,hv⟩:=hf f (by simp) _ ha
     obtain⟨u,hu⟩:=ih _ _ hb' fun g hg=>hf g (by simp [hg])
     refine⟨(v,u),_,_, ?_,hv,hu⟩
     rw[h1,h2,Ty.size,List.take_add,List.drop_drop]
   ·cases h
theorem rep_rel {ok:Nat→Prop} {te:Ty} {cs:List Value}: ∀(n o:Nat) (ty:Ty),typC.repC n te=some ty→
 (∀i,i<n→ ∃v:te.D,TRel w ok te v ((cs.drop (o+i*te.size)).take te.size))→ ∃v:ty.D,TRel w ok ty v ((cs.drop o).take ty.size):=by
 intro n
 induction n with
 |zero=>intro o ty h;cases h
 |succ n ih=>
  intro o ty h hf
  cases n with
  |zero=>
   obtain rfl:te=ty:=Option.some.inj h
   obtain⟨v,hv⟩:=hf 0 (by omega)
   exact⟨v,by simpa using hv⟩
  |succ n=>
   simp only[typC.repC]at h
   split at h
   ·rename_i r hr
    cases h
    obtain⟨v,hv⟩:=hf 0 (by omega)
    obtain⟨u,hu⟩:=ih (o+te.size) _ hr fun i hi=>by
     obtain⟨v,hv⟩:=hf (i+1) (by omega)
     refine⟨v, ?_⟩
     rw[show o+te.size+i*te.size=o+(i+1)*te.size by rw[Nat.succ_mul];omega]
     exact hv
    refine⟨(v,u),_,_, ?_,by simpa using hv,hu⟩
    rw[Ty.size,List.take_add,List.drop_drop]
   ·cases h
theorem trod_rel: ∀(d:Nat) (t:TypeId) (ty:Ty),typC P d t=some ty→ ∀(fuel:Nat) (cs:List Value) (x:DataW H×List MemPlace),DataW.trod enc P w base spare held fuel t cs=some x→
 ∃v:ty.D,TRel w (fun b=>b<w.heap.size) ty v cs:=by
 intro d
 induction d with
 |zero=>intro t ty h;cases h
 |succ d ih=>
  intro t ty h fuel cs x hx
  cases fuel with
  |zero=>cases hx
  |succ fuel=>
   simp only[typC]at h
   unfold DataW.trod at hx
   split at h<;>rename_i hu
   ·cases h
    rw[hu]at hx
    split at hx<;>first|(cases hx;done)|(rename_i heq;cases heq;done)|skip
    rename_i k' n heq
    cases heq
    split at hx
    ·rename_i hk
     obtain⟨rfl,hwf⟩:=hk
     simp only[Lit.wf,Bool.and_eq_true,decide_eq_true_eq]at hwf
     exact⟨n,rfl,hwf⟩
    ·cases hx
   ·cases h
    rw[hu]at hx
    split at hx<;>first|(cases hx;done)|(rename_i heq;cases heq;done)|skip
    rename_i b heq
    exact⟨b,rfl⟩
   ·cases h
    rw[hu]at hx
    split at hx<;>first|(cases hx;done)|(rename_i heq;cases heq;done)|skip
    rename_i s heq
    split at hx
    ·rename_i hs
     exact⟨s,rfl,by simpa [maxLen]using hs⟩
    ·cases hx
   ·rename_i e
    split at h
    ·rename_i te he
     cases hb:(Nat.beq (P.cellsOf e) te.size&&Nat.blt 0 te.size)with
     |false=>rw[hb]at h;cases h
     |true=>
      rw[hb]at h;cases h
      simp only[Bool.and_eq_true]at hb
      have hce:P.cellsOf e=te.size:=Nat.eq_of_beq_eq_true hb.1
      have h0:0<te.size:=by simpa [Nat.blt_eq]using hb.2
      rw[hu]at hx
      split at hx<;>first|(cases hx;done)|(rename_i heq;cases heq;done)|skip
      ·exact⟨[],none,0,rfl,by simp,by simp,.inl ⟨rfl,rfl,rfl⟩⟩
      ·rename_i e' a len cap heq
       cases heq
       split at hx
       ·rename_i hc
        obtain⟨hc1,hc2,hc3⟩:=hc
        simp only[Option.bind_eq_some_iff]at hx
        obtain⟨elems,hm,_⟩:=hx
        obtain⟨hl,hat⟩:=all2_range (mapM_spec hm)
        have hel: ∀i,i<len→ ∃v:te.D,∃cs,TRel w (fun b=>b<w.heap.size) te v cs∧w.cells? base (a.add (i*te.size)) te.size=some cs:=by
         intro i hi
         have:=hat i elems[i] (by simp [hl,hi])
         rw[Option.bind_eq_some_iff]at this
         obtain⟨cs,g1,g2⟩:=this
         obtain⟨v,hv⟩:=ih e te he fuel cs _ g2
         exact⟨v,cs,hv,by rw[←hce];exact g1⟩
        obtain⟨xs,hxl,hxs⟩:=list_choice hel
        refine⟨xs,some a,cap,by rw[hxl],by omega,by simpa [maxLen]using hc3,.inr ⟨a.block,a.off,⟨a.spot,rfl,fun hne=> ?_⟩,fun hne=> ?_,fun j hj=> ?_⟩⟩
        ·
         cases xs with
         |nil=>exact absurd rfl hne
         |cons y ys=>
          obtain⟨cs,g1,g2⟩:=hxs 0 (by simp)
          have hcl:=cells_spec g2
          have:=hcl.2 0 (by omega)
          simp only[Nat.zero_mul,Addr.add,if_true]at this
          exact(cell_lt this).1
        ·cases xs with
         |nil=>exact absurd rfl hne
         |cons y ys=>
          obtain⟨cs,g1,g2⟩:=hxs 0 (by simp)
          have hcl:=cells_spec g2
          have:=hcl.2 0 (by omega)
          simp only[Nat.zero_mul,Addr.add,if_true]at this
          exact(cell_lt this).2
        ·have hsp:a.spot=none:=by
          obtain⟨cs,g1,g2⟩:=hxs 0 (by omega)
          have hcl:=cells_spec g2
          have:=hcl.2 0 (by omega)
          simp only[Nat.zero_mul,Addr.add,if_true]at this
          exact(cell_lt this).1
         obtain⟨cs,g1,g2⟩:=hxs j hj
         refine⟨cs,g1,fun q hq=> ?_⟩
         have:=(cells_spec g2).2 q hq
         obtain⟨ab,ao,asp⟩:=a
         obtain rfl:asp=none:=hsp
         rw[add_none,add_none]at this
         exact this
       ·cases hx
    ·cases h
   ·rename_i F
    split at h
    ·rename_i ty' hf
     cases hb:Nat.beq (P.cellsOf t) ty'.size with
     |false=>rw[hb]at h;cases h
     |true=>
      rw[hb]at h;cases h
      have hce:=Nat.eq_of_beq_eq_true hb
      rw[hu]at hx
      split at hx<;>first|(cases hx;done)|(rename_i heq;cases heq;done)|(exfalso;rename_i h1 h2 _ _ _ _ _ _ _ _ _ _ _ _ _ _ _ _ _ _ _;exact h1 _ rfl)|(exfalso;solve_by_elim)|skip
      rename_i cs1 x1 cs2 fs heq
      cases heq
      split at hx
      ·rename_i hl
       rw[Option.map_eq_some_iff]at hx
       obtain⟨xs,hm,_⟩:=hx
       obtain⟨v,hv⟩:=fields_rel (w:=w) (ok:=fun b=>b<w.heap.size) (cs:=cs1) F.toList 0 _ hf fun f hmem a ha=>by
        obtain⟨i,hi⟩:=List.getElem?_of_mem hmem
        obtain⟨y,_,hy⟩:=(mapM_spec hm).get i f hi
        exact ih f.type a ha fuel _ _ hy
       refine⟨v, ?_⟩
       rw[List.drop_zero,List.take_of_length_le (by omega)]at hv
       exact hv
      ·cases hx
    ·cases h
   ·rename_i n e
    split at h
    ·rename_i te he
     cases hb1:Nat.beq (P.cellsOf e) te.size with
     |false=>rw[hb1]at h;cases h
     |true=>
      rw[hb1]at h
      simp only[cond_true]at h
      split at h
      ·rename_i ty' hr
       cases hb:Nat.beq (P.cellsOf t) ty'.size with
       |false=>rw[hb]at h;cases h
       |true=>
        rw[hb]at h;cases h
        have hce:=Nat.eq_of_beq_eq_true hb
        have hce1:=Nat.eq_of_beq_eq_true hb1
        rw[hu]at hx
        split at hx<;>first|(cases hx;done)|(rename_i heq;cases heq;done)|(exfalso;solve_by_elim)|skip
        rename_i cs1 x1 cs2 n' e' heq
        cases heq
        split at hx
        ·rename_i hl
         rw[Option.map_eq_some_iff]at hx
         obtain⟨xs,hm,_⟩:=hx
         obtain⟨hlx,hat⟩:=all2_range (mapM_spec hm)
         obtain⟨v,hv⟩:=rep_rel (w:=w) (ok:=fun b=>b<w.heap.size) (cs:=cs1) n 0 _ hr fun i hi=>by
          have:=hat i xs[i] (by simp [hlx,hi])
          rw[hce1]at this
          rw[Nat.zero_add]
          exact ih e te he fuel _ _ this
         refine⟨v, ?_⟩
         rw[List.drop_zero,List.take_of_length_le (by omega)]at hv
         exact hv
        ·cases hx
      ·cases h
    ·cases h
   ·cases h
theorem okWide_one {r:Reach} {b:Nat} {t:TypeId} {v:Value} {D:TypeDesc} (hu:P.underlying t=some D) (hD:Agg D=false) (h:Value.okWide P w r b t v):v.cells.toList=[v]:=by
 cases v with
 |agg cs=>
  exfalso
  unfold Value.okWide at h
  rw[hu]at h
  cases D<;>first|(cases hD;done)|(simp [Cell.okWide,Cell.ok,hu]at h;done)
 |_=>rfl
theorem arg_scal {r:Reach} {b d fuel:Nat} {t:TypeId} {ty:Ty} {v:Value} {D:TypeDesc} {x:DataW H×List MemPlace} (ht:typC P d t=some ty) (hu:P.underlying t=some D) (hD:Agg D=false) (hp:ty.isAgg=false)
 (h:Value.okWide P w r b t v) (hx:DataW.trod enc P w base spare held fuel t v.cells.toList=some x): ∃y:ty.D,AVRel w μ0 (argOK fun b=>b<w.heap.size) (encV ty y) v:=by
 obtain⟨y,hy⟩:=trod_rel d t ty ht fuel _ _ hx
 rw[okWide_one hu hD h]at hy
 refine⟨y, ?_⟩
 cases ty with
 |int k=>
  have:=hy
  obtain⟨e,hk⟩:=this
  simp only[List.cons.injEq,and_true]at e
  exact⟨e,hk⟩
 |bool=>
  have e:[v]=[Value.bool y]:=hy
  simp only[List.cons.injEq,and_true]at e
  exact e
 |str=>
  obtain⟨e,hk⟩:=hy
  simp only[List.cons.injEq,and_true]at e
  exact⟨e,hk⟩
 |sl te=>exact⟨TRel.mono (ok':=argOK (fun b=>b<w.heap.size) false) (fun _ _=>rfl) (fun b hb=>⟨rfl,hb⟩) hy,trivial⟩
 |pair a b=>cases hp
 |unit=>cases hp
end
end Go.AM
