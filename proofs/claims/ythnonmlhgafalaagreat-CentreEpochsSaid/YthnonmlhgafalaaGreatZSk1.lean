import Derived.Test.YthnonmlhgafalaaGreatZM18
set_option linter.unusedVariables false
set_option linter.unusedSimpArgs false
set_option maxRecDepth 100000
namespace Go.AM.Seat
open Go Go.AM Go.Proofs
theorem leafN_lt {h i:Nat} (h2:h≤32) (hi:i<2^h):leafN h i<2^34:=by
 have:=pow32 h2
 unfold leafN;omega
theorem wG_eq {h leaf:Int}: ∀(m j:Nat) (out:List (Int×Int)),wG h leaf m j out=out++(List.range m).map fun i=>(shrI leaf (h-((j+i:Nat):Int)),0):=by
 intro m
 induction m with
 |zero=>intro j out;simp [wG]
 |succ m ih=>
  intro j out
  rw[wG,ih,List.range_succ_eq_map,List.map_cons,List.map_map,List.append_assoc]
  congr 1
  show _=[(shrI leaf (h-((j+0:Nat):Int)),0)]++_
  congr 1
  apply List.map_congr_left
  intro i _
  show(shrI leaf (h-((j+1+i:Nat):Int)),(0:Int))=(shrI leaf (h-((j+(i+1):Nat):Int)),0)
  rw[show j+1+i=j+(i+1) by omega]
structure LeafAt (H x:Nat):Prop where
 h1:1≤H
 h2:H≤32
 hx:x<2^H
theorem LeafAt.log {H x:Nat} (a:LeafAt H x):(leafN H x).log2=H:=leafN_log2 a.hx
theorem LeafAt.lt {H x:Nat} (a:LeafAt H x):leafN H x<2^34:=leafN_lt a.h2 a.hx
theorem bitI_nat {b j:Nat} (hb:b<2^64) (hj:j≤64):bitI (b:Int) (j:Int)=((b/2^j%2:Nat):Int):=by
 unfold bitI
 rw[shr_nat (by omega) (by omega),Int.toNat_natCast,Int.toNat_natCast]
 have hx:b/2^j<2^64:=Nat.lt_of_le_of_lt (Nat.div_le_self _ _) hb
 generalize b/2^j=x at*
 have e1:(BitVec.ofInt 64 (x:Int)).toNat=x:=by rw[BitVec.toNat_ofInt];omega
 have e2:(BitVec.ofInt 64 (1:Int)).toNat=1:=by decide
 rw[BitVec.toNat_and,e1,e2,Nat.and_one_is_mod,wrapU (by omega) (by omega),wrap64 (by omega) (by omega)]
theorem setG_get (b:Int) (n:Nat): ∀(m j:Nat) (l:List Int),l.length=n→j+m=n→(setG b n m j l).length=n∧ ∀i,i<n→(setG b n m j l)[i]? =if i<m then some (bitI b ((n-1-i:Nat):Int))else l[i]? :=by
 intro m
 induction m with
 |zero=>intro j l hl _;exact⟨hl,fun i _=>by simp [setG]⟩
 |succ m ih=>
  intro j l hl hj
  obtain⟨g1,g2⟩:=ih (j+1) (l.set (n-1-j) (bitI b j)) (by simpa using hl) (by omega)
  refine⟨g1,fun i hi=> ?_⟩
  rw[setG,g2 i hi]
  have hm:n-1-j=m:=by omega
  rw[hm]
  rcases Nat.lt_trichotomy i m with h|h|h
  ·rw[if_pos h,if_pos (by omega)]
  ·subst h
   rw[if_neg (by omega),if_pos (by omega),List.getElem?_set_self (by omega),show j=n-1-i by omega]
  ·rw[if_neg (by omega),if_neg (by omega),List.getElem?_set_ne (by omega)]
theorem setG_eq {b n:Nat} (hb:b<2^64) (hn:n≤64):setG (b:Int) n n 0 (List.replicate n 0)=(List.range n).map fun m=>((b/2^(n-1-m)%2:Nat):Int):=by
 obtain⟨g1,g2⟩:=setG_get (b:Int) n n 0 (List.replicate n 0) (by simp) (by omega)
 apply List.ext_getElem?
 intro i
 rcases Nat.lt_or_ge i n with hi|hi
 ·rw[g2 i hi,if_pos hi,List.getElem?_map,List.getElem?_range hi]
  show some _=some _
  rw[bitI_nat hb (by omega)]
 ·rw[List.getElem?_eq_none (by omega),List.getElem?_eq_none (by simp;omega)]
theorem xor_zero {a b:Nat}:a^^^b=0↔a=b:=by
 constructor
 ·intro h
  have:a^^^b^^^b=0^^^b:=by rw[h]
  rwa [Nat.xor_assoc,Nat.xor_self,Nat.xor_zero,Nat.zero_xor]at this
 ·rintro rfl;exact Nat.xor_self a
theorem depI_nat {n:Nat} (h:n≠0):depI (n:Int)=(n.log2:Int):=by rw[dep_nat (by omega),Int.toNat_natCast]
theorem chk_natOk {H n:Nat} (h:okN H n=true):(chkI (H:Int) (n:Int) != 0)=false:=by rw[chk_ne (by omega),Int.toNat_natCast,Int.toNat_natCast,h];rfl
theorem path_nat {H a b:Nat} (ha:okN H a=true) (hb:okN H b=true) (h:abv a b=true):pathI (H:Int) (a:Int) (b:Int)=((List.range (b.log2-a.log2)).map fun m=>((b/2^(b.log2-a.log2-1-m)%2:Nat):Int),0):=by
 obtain⟨h1,h2,a1,a2⟩:=okN_iff.1 ha
 obtain⟨_,_,b1,b2⟩:=okN_iff.1 hb
 have:2^(H+1)≤2^33:=Nat.pow_le_pow_right (by decide) (by omega)
 have hbl:=(okN_log (h:=H) (show b≠0 by omega)).1 b2
 unfold pathI bothI both
 rw[chk_natOk ha,chk_natOk hb,above_nat (by omega) (by omega) (by rw[Int.toNat_natCast];omega),Int.toNat_natCast,Int.toNat_natCast,h]
 have hn:pathN (a:Int) (b:Int)=((b.log2-a.log2:Nat):Int):=by
  unfold pathN
  rw[depI_nat (show a≠0 by omega),depI_nat (show b≠0 by omega)]
  have:=(abv_iff.1 h).1
  omega
 show(setG (b:Int) (pathN (a:Int) (b:Int)).toNat (pathN (a:Int) (b:Int)).toNat 0 (List.replicate (pathN (a:Int) (b:Int)).toNat 0),(0:Int))=_
 rw[hn,Int.toNat_natCast,setG_eq (by omega) (by omega)]
theorem may_sub {h k:Int} {s:Subset.D} (e:mayI h k s=(true,0)):subE h s=0∧(schE h k != 0)=false:=by
 unfold mayI at e
 cases h3:mayB3 h k s with
 |true=>rw[h3]at e;cases e
 |false=>
  unfold mayB3 at h3
  cases h4:schE h k != 0 with
  |true=>rw[h4]at h3;cases h3
  |false=>rw[h4]at h3;exact⟨by simpa using h3,rfl⟩
def partsL (t:Term.D):List Int:=bif t.1==2 then [t.2.1]else bif t.1==3 then [t.2.1]else bif t.1==4 then [t.2.1]else bif t.1==5 then [t.2.1,t.2.2]else []
theorem r74 (t:Term.D):run (orc []) noL [] F74 (encA [.v Term] t) [.sl true I]=
 bif t.1==2 then some (.one (.sl true I none [t.2.1]))else bif t.1==3 then some (.one (.sl true I none [t.2.1]))else bif t.1==4 then some (.one (.sl true I none [t.2.1]))else
 bif t.1==5 then some (.one (.sl true I none [t.2.1,t.2.2]))else some (.one (.sl true I none [])):=by kernel_rfl
def s74:Sp:= .fn [.v Term] fun t=>(true,.one (.sl true I none (partsL t)))
theorem g74:GoodS Tryz.prog N74 s74:=by
 refine good (OrcOk.nil _) H74 rfl (by kernel_rfl) noL [] (noLoops (by kernel_rfl)) [.v Term] (by decide) [.sl true I] _ fun t r _ h=> ?_
 cases h
 rw[r74,partsL]
 cases (t.1==2)<;>cases (t.1==3)<;>cases (t.1==4)<;>cases (t.1==5)<;>rfl
theorem r121 (p i:Int):run (orc []) noL [] F121 [.one (.int .i64 p),.one (.rp false I i 0)] []=some (.one (.bool (badP i p))):=by kernel_rfl
def s121:Sp:= .fn [.v I,.raw] fun x=>match x.2 with
 | .one (.rp false (.int .i64) i 0)=>(true,.one (.bool (badP i x.1)))
 |_=>(false,AV.junk)
theorem g121:GoodS Tryz.prog N121 s121:=by
 refine good (OrcOk.nil _) H121 rfl (by kernel_rfl) noL [] (noLoops (by kernel_rfl)) [.v I,.raw] (by decide) [] _ fun x r hw h=> ?_
 obtain⟨p,c⟩:=x
 simp only at h
 split at h
 ·rename_i i
  cases h
  exact r121 p i
 ·cases h
theorem cl_some {c:AV} {p:Int→Bool} (h:cl c=some p): ∃k,c= .one (.fn N121 [.ptrD false I k])∧p=badP k:=by
 unfold cl at h
 split at h
 ·rename_i f k
  cases hf:Nat.beq f N121 with
  |false=>rw[hf]at h;cases h
  |true=>
   rw[hf]at h
   cases h
   obtain rfl:=Nat.eq_of_beq_eq_true hf
   exact⟨k,rfl,rfl⟩
 ·cases h
def Λ101:Lam AV:=fun cur vs K=>
 match cur,vs with
 |0,[.one (.sl f (.int .i64) nl xs),c,.one (.int .i64 r),.one (.int .i64 n),.one (.int .i64 i)]=>
  match cl c with
  |some p=>
   bif decide (n=xs.length)&&decide (0≤i)&&decide (i≤n)&&decide (n≤9223372036854775807)then
    (bif decide (idxFrom p (xs.drop i.toNat) i<0)then K (.exit 0) [.one (.sl f (.int .i64) nl xs),c,.one (.int .i64 r),.one (.int .i64 n),.one (.int .i64 n)]
     else K .ret [.one (.sl f (.int .i64) nl xs),c,.one (.int .i64 (idxFrom p (xs.drop i.toNat) i)),.one (.int .i64 n),.one (.int .i64 (idxFrom p (xs.drop i.toNat) i))])
   else none
  |none=>none
 |_,_=>none
def Γ101:Orc:=orc [(N121,s121)]
theorem step101 (f:Bool) (nl:Option Bool) (xs:List Int) (k:Int) (r n i:Int) (K:AE→List AV→Option AV) (fuel:Nat):
 loopN (aexec tb Γ101 Λ101 ⟨19,0,live101⟩ (loop1 F101).2 0) 19 0 [(0,.keep),(1,.keep),(4,.keep),(7,.keep),(8,.keep)] K (fuel+1)
  [.one (.sl f I nl xs),.one (.fn N121 [.ptrD false I k]),.one (.int .i64 r),.one (.int .i64 n),.one (.int .i64 i)]=
 bif decide (i<n)then
  bif inB i xs.length then
   bif badP k (xs.getD i.toNat 0)then K .ret [.one (.sl f I nl xs),.one (.fn N121 [.ptrD false I k]),.one (.int .i64 i),.one (.int .i64 n),.one (.int .i64 i)]
   else loopN (aexec tb Γ101 Λ101 ⟨19,0,live101⟩ (loop1 F101).2 0) 19 0 [(0,.keep),(1,.keep),(4,.keep),(7,.keep),(8,.keep)] K fuel
    [.one (.sl f I nl xs),.one (.fn N121 [.ptrD false I k]),.one (.int .i64 r),.one (.int .i64 n),.one (.int .i64 (IntKind.i64.wrap (i+1)))]
  else none
 else K (.exit 0) [.one (.sl f I nl xs),.one (.fn N121 [.ptrD false I k]),.one (.int .i64 r),.one (.int .i64 n),.one (.int .i64 i)]:=by kernel_rfl
theorem loop101:LoopP tb Γ101 Λ101 ⟨19,0,live101⟩ (loop1 F101):=by
 intro vs K out h
 have hcur:(loop1 F101).1=0:=by kernel_rfl
 rw[hcur]at h⊢
 unfold Λ101 at h
 split at h
 ·rename_i f nl xs c r n i _
  split at h
  ·rename_i p hp
   obtain⟨k,rfl,rfl⟩:=cl_some hp
   ·cases hc:(decide (n=xs.length)&&decide (0≤i)&&decide (i≤n)&&decide (n≤9223372036854775807))with
    |false=>rw[hc]at h;cases h
    |true=>
     rw[hc]at h
     simp only[cond_true]at h
     simp only[Bool.and_eq_true,decide_eq_true_eq]at hc
     obtain⟨⟨⟨hn,h0⟩,hi⟩,hmax⟩:=hc
     obtain⟨j,rfl⟩:=Int.eq_ofNat_of_zero_le h0
     subst hn
     have key: ∀(m j:Nat) (r:Int),j+m=xs.length→(bif decide (idxFrom (badP k) (xs.drop j) j<0)then K (.exit 0) [.one (.sl f I nl xs),.one (.fn N121 [.ptrD false I k]),.one (.int .i64 r),.one (.int .i64 xs.length),.one (.int .i64 xs.length)]
      else K .ret [.one (.sl f I nl xs),.one (.fn N121 [.ptrD false I k]),.one (.int .i64 (idxFrom (badP k) (xs.drop j) j)),.one (.int .i64 xs.length),.one (.int .i64 (idxFrom (badP k) (xs.drop j) j))])=some out→
      ∃fuel,loopN (aexec tb Γ101 Λ101 ⟨19,0,live101⟩ (loop1 F101).2 0) 19 0 [(0,.keep),(1,.keep),(4,.keep),(7,.keep),(8,.keep)] K fuel
       [.one (.sl f I nl xs),.one (.fn N121 [.ptrD false I k]),.one (.int .i64 r),.one (.int .i64 xs.length),.one (.int .i64 j)]=some out:=by
      intro m
      induction m with
      |zero=>
       intro j r hj h
       refine⟨1, ?_⟩
       rw[step101]
       have hd:decide ((j:Int)<(xs.length:Int))=false:=by simp;omega
       have hdr:xs.drop j=[]:=List.drop_of_length_le (by omega)
       rw[hdr]at h
       simp only[idxFrom]at h
       have:(j:Int)=xs.length:=by omega
       rw[hd,this]
       simpa using h
      |succ m ih=>
       intro j r hj h
       have hlt:j<xs.length:=by omega
       have hd:decide ((j:Int)<(xs.length:Int))=true:=by simp;omega
       have hb:inB (j:Int) xs.length=true:=by simp [inB];omega
       rw[idxFrom_drop _ _ _ hlt]at h
       cases hx:badP k (xs.getD j 0)with
       |true=>
        refine⟨1, ?_⟩
        rw[step101,hd,hb]
        simp only[cond_true,Int.toNat_natCast,hx]
        rw[hx]at h
        simp only[cond_true]at h
        have:decide ((j:Int)<0)=false:=by simp
        rw[this]at h
        exact h
       |false=>
        rw[hx]at h
        simp only[cond_false]at h
        obtain⟨fuel,hf⟩:=ih (j+1) r (by omega) h
        refine⟨fuel+1, ?_⟩
        rw[step101,hd,hb]
        simp only[cond_true,Int.toNat_natCast,hx,cond_false]
        rw[wrap64 (by omega) (by omega)]
        exact hf
     exact key (xs.length-j) j r (by omega) h
  ·cases h
 ·cases h
theorem r101 (xs:List Int) (k:Int):run Γ101 Λ101 live101 F101 [.one (.sl false I none xs),.one (.fn N121 [.ptrD false I k])] []=
 bif decide ((xs.length:Int)=xs.length)&&decide ((0:Int)≤0)&&decide ((0:Int)≤(xs.length:Int))&&decide ((xs.length:Int)≤9223372036854775807)then
  bif decide (idxFrom (badP k) (xs.drop (Int.toNat 0)) 0<0)then some (.one (.int .i64 (-1)))else some (.one (.int .i64 (idxFrom (badP k) (xs.drop (Int.toNat 0)) 0)))
 else none:=by kernel_rfl
def s101:Sp:= .fn [.v (.sl I),.raw] fun x=>match cl x.2 with
 |some p=>(true,.one (.int .i64 (idxFrom p x.1 0)))
 |none=>(false,AV.junk)
theorem Γ101ok:OrcOk Tryz.prog Γ101:= .cons g121 (.nil _)
theorem g101:GoodS Tryz.prog N101 s101:=by
 refine good Γ101ok H101 rfl (by kernel_rfl) Λ101 live101 (oneLoop (p0:=loop1 F101) (by kernel_rfl) loop101) [.v (.sl I),.raw] (by decide) [] _ fun x r hw h=> ?_
 obtain⟨xs,c⟩:=x
 simp only at h
 split at h
 ·rename_i p hp
  obtain⟨k,rfl,rfl⟩:=cl_some hp
  ·cases h
   refine(r101 xs k).trans ?_
   have hmax:(xs.length:Int)≤9223372036854775807:=by have:xs.length≤9223372036854775807:=hw.1.1;omega
   have h0:(0:Int)≤(xs.length:Int):=by omega
   simp only[decide_eq_true hmax,decide_eq_true h0,decide_true,Int.le_refl,Bool.and_self,cond_true,Int.toNat_zero,List.drop_zero]
   rcases idxFrom_ge (badP k) xs 0 with h|h
   ·rw[h];rfl
   ·have:decide (idxFrom (badP k) xs 0<0)=false:=by simpa using h
    rw[this];rfl
 ·cases h
def Γ67:Orc:=orc [(N101,s101)]
theorem r67 (xs:List Int) (k:Int):run Γ67 noL [] F67 [.one (.sl false I none xs),.one (.fn N121 [.ptrD false I k])] []=some (.one (.bool (decide (idxFrom (badP k) xs 0≥0)))):=by kernel_rfl
def s67:Sp:= .fn [.v (.sl I),.raw] fun x=>match cl x.2 with
 |some p=>(true,.one (.bool (x.1.any p)))
 |none=>(false,AV.junk)
theorem g67:GoodS Tryz.prog N67 s67:=by
 refine good (.cons g101 (.nil _)) H67 rfl (by kernel_rfl) noL [] (noLoops (by kernel_rfl)) [.v (.sl I),.raw] (by decide) [] _ fun x r hw h=> ?_
 obtain⟨xs,c⟩:=x
 simp only at h
 split at h
 ·rename_i p hp
  obtain⟨k,rfl,rfl⟩:=cl_some hp
  ·cases h
   refine(r67 xs k).trans ?_
   rw[idx_any _ _ _ (Int.le_refl 0)]
 ·cases h
def Γ104:Orc:=orc [(N67,s67),(N74,s74)]
def mayBad (t:Term.D):Bool:=bif bif decide (t.1<1)then true else decide (t.1>5)then true else bif t.1 != 5 then t.2.2 != 0 else false
def mayB (t:Term.D) (i:Int):Bool:=
 bif mayBad t then false
 else bif t.1==1 then(bif decide (t.2.1 ≥0)then decide (t.2.1 ≤1048576)else false)
 else !(partsL t).any (badP i)
theorem r104 (t:Term.D) (i:Int):run Γ104 noL [] F104 (encA [.v Term,.v I] (t,i)) []=
 bif mayBad t then some (.one (.bool false))else bif t.1==1 then some (.one (.bool (bif decide (t.2.1 ≥0)then decide (t.2.1 ≤1048576)else false)))else some (.one (.bool (! (partsL t).any (badP i)))):=by kernel_rfl
def s104:Sp:= .fn [.v Term,.v I] fun x=>(true,.one (.bool (mayB x.1 x.2)))
theorem g104:GoodS Tryz.prog N104 s104:=by
 refine good (.cons g67 (.cons g74 (.nil _))) H104 rfl (by kernel_rfl) noL [] (noLoops (by kernel_rfl)) [.v Term,.v I] (by decide) [] _ fun x r hw h=> ?_
 obtain⟨t,i⟩:=x
 cases h
 refine(r104 t i).trans ?_
 show _=some (AV.one (SV.bool (mayB t i)))
 rw[mayB]
 cases mayBad t<;>cases (t.1==1)<;>rfl
theorem r47n (xs:List Term.D):run (orc []) noL [] F47 [.one (.sl false Term (some true) xs)] [.arr Term]=some (.arr true Term []):=by kernel_rfl
theorem r47 (xs:List Term.D):run (orc []) noL [] F47 [.one (.sl false Term (some false) xs)] [.arr Term]=
 bif decide ((([]:List Term.D).length+xs.length)*24≤140737488355328)then some (.arr true Term ([]++xs))else none:=by kernel_rfl
def small24 (n:Nat):Bool:=decide (n*24≤140737488355328)
def s47:Sp:= .fn [.v (.sl Term)] fun xs=>(small24 xs.length,.arr true Term xs)
theorem ks47 (ws:List WK) (args:List AV) (hl:args.length≤F47.ntmps) {r:AV} (h:run (orc []) noL [] F47 args ws=some r):Good Tryz.prog N47 args r:=
 good_of mixed tbOk (.nil _) H47 (bd rfl) rfl rfl args hl ⟨F47.ntmps,0,[]⟩ rfl noL (noLoops (by kernel_rfl)) (kretW_spec ws) h
theorem g47:GoodS Tryz.prog N47 s47:=by
 refine .fn (callable_of H47 (bd rfl) (by kernel_rfl)) fun xs r hw h=> ?_
 have hs:small24 xs.length=true:=congrArg Prod.fst h
 obtain rfl:AV.arr true Term xs=r:=congrArg Prod.snd h
 refine good_nl (fun e=> ?_) ?_
 ·subst e
  exact ks47 [.arr Term] _ (by show 1≤8;omega) (r47n [])
 ·refine ks47 [.arr Term] _ (by show 1≤8;omega) ((r47 xs).trans ?_)
  unfold small24 at hs
  simp only[List.length_nil,Nat.zero_add,hs,cond_true,List.nil_append]
abbrev Ents:=List (Term.D×I.D)
def ixBad (t:Term.D) (i:Int) (es:Ents):Bool:=bif mhas t es then true else !mayB t i
def ixGo:List Term.D→Int→Ents→Bool×Ents×Int
 |[],i,es=>(true,es,i)
 |t::r,i,es=>bif ixBad t i es then(false,es,i)else ixGo r (i+1) (mput t i es)
abbrev live88:List (Nat×Dir):=[(0,.keep),(2,.keep),(3,.keep),(4,.keep),(14,.keep),(15,.keep),(16,.keep),(17,.keep)]
def Γ88:Orc:=orc [(N104,s104)]
def vs88 (l l2:List Term.D) (es:Ents) (n i:Int):List AV:=
 [.one (.sl false Term none l),.one .nilm,.one (.bool false),.one (.mref 14),.mapO true Term I es,.one (.sl false Term none l2),.one (.int .i64 n),.one (.int .i64 i)]
def Λ88:Lam AV:=fun cur vs K=>
 match cur,vs with
 |0,[.one (.sl false (.pair (.int .i64) (.pair (.int .i64) (.int .i64))) none l),.one .nilm,.one (.bool false),.one (.mref 14),.mapO true (.pair (.int .i64) (.pair (.int .i64) (.int .i64))) (.int .i64) [],.one (.sl false (.pair (.int .i64) (.pair (.int .i64) (.int .i64))) none l2),.one (.int .i64 n),.one (.int .i64 0)]=>
  bif decide (n=l2.length)&&decide (n≤9223372036854775807)then
   bif (ixGo l2 0 []).1 then K (.exit 0) (vs88 l l2 (ixGo l2 0 []).2.1 n (ixGo l2 0 []).2.2)else K .ret (vs88 l l2 (ixGo l2 0 []).2.1 n (ixGo l2 0 []).2.2)
  else none
 |_,_=>none
def tAt (l:List Term.D) (i:Int):Term.D:=l.getD i.toNat (0,0,0)
theorem step88 (l l2:List Term.D) (es:Ents) (n i:Int) (K:AE→List AV→Option AV) (fuel:Nat):
 loopN (aexec tb Γ88 Λ88 ⟨40,0,[(0,live88)]⟩ (loop1 F88).2 0) 40 0 live88 K (fuel+1) (vs88 l l2 es n i)=
 bif decide (i<n)then
  bif inB i l2.length then
   bif ixBad (tAt l2 i) i es then K .ret (vs88 l l2 es n i)
   else loopN (aexec tb Γ88 Λ88 ⟨40,0,[(0,live88)]⟩ (loop1 F88).2 0) 40 0 live88 K fuel (vs88 l l2 (mput (tAt l2 i) i es) n (IntKind.i64.wrap (i+1)))
  else none
 else K (.exit 0) (vs88 l l2 es n i):=by kernel_rfl
theorem ix_drop {l:List Term.D} {j:Nat} {es:Ents} (h:j<l.length):ixGo (l.drop j) j es=
 bif ixBad (tAt l j) j es then(false,es,(j:Int))else ixGo (l.drop (j+1)) ((j+1:Nat):Int) (mput (tAt l j) j es):=by
 rw[List.drop_eq_getElem_cons h]
 simp only[ixGo,tAt,Int.toNat_natCast,List.getD_eq_getElem?_getD,List.getElem?_eq_getElem h,Option.getD_some]
 rfl
theorem loop88:LoopP tb Γ88 Λ88 ⟨40,0,[(0,live88)]⟩ (loop1 F88):=by
 intro vs K out h
 have hcur:(loop1 F88).1=0:=by kernel_rfl
 rw[hcur]at h⊢
 unfold Λ88 at h
 split at h
 ·rename_i l l2 n _
  cases hc:(decide (n=l2.length)&&decide (n≤9223372036854775807))with
  |false=>rw[hc]at h;cases h
  |true=>
   rw[hc]at h
   simp only[cond_true]at h
   simp only[Bool.and_eq_true,decide_eq_true_eq]at hc
   obtain⟨hn,hmax⟩:=hc
   subst hn
   have key: ∀(m j:Nat) (es:Ents),j+m=l2.length→(bif (ixGo (l2.drop j) j es).1 then K (.exit 0) (vs88 l l2 (ixGo (l2.drop j) j es).2.1 l2.length (ixGo (l2.drop j) j es).2.2)
    else K .ret (vs88 l l2 (ixGo (l2.drop j) j es).2.1 l2.length (ixGo (l2.drop j) j es).2.2))=some out→
    ∃fuel,loopN (aexec tb Γ88 Λ88 ⟨40,0,[(0,live88)]⟩ (loop1 F88).2 0) 40 0 live88 K fuel (vs88 l l2 es l2.length j)=some out:=by
    intro m
    induction m with
    |zero=>
     intro j es hj h
     refine⟨1, ?_⟩
     rw[step88]
     have hd:decide ((j:Int)<(l2.length:Int))=false:=by simp;omega
     rw[List.drop_of_length_le (by omega)]at h
     rw[hd]
     exact h
    |succ m ih=>
     intro j es hj h
     have hlt:j<l2.length:=by omega
     have hd:decide ((j:Int)<(l2.length:Int))=true:=by simp;omega
     have hb:inB (j:Int) l2.length=true:=by simp [inB];omega
     rw[ix_drop hlt]at h
     cases hx:ixBad (tAt l2 j) j es with
     |true=>
      refine⟨1, ?_⟩
      rw[step88,hd,hb]
      simp only[cond_true,hx]
      rw[hx]at h
      exact h
     |false=>
      rw[hx]at h
      obtain⟨fuel,hf⟩:=ih (j+1) _ (by omega) h
      refine⟨fuel+1, ?_⟩
      rw[step88,hd,hb]
      simp only[cond_true,cond_false,hx]
      rw[wrap64 (by omega) (by omega)]
      exact hf
   exact key l2.length 0 [] (by omega) h
 ·cases h
def ixL (l:List Term.D):Bool×Ents×Int:=bif decide ((l.length:Int)>65536)then(false,[],0)else ixGo l 0 []
def ixEnts (l:List Term.D):Ents:=bif (ixL l).1 then(ixL l).2.1 else []
def s88:Sp:= .fn [.v (.sl Term)] fun l=>(true,.tup [(false,[.sm true Term I (ixEnts l)]),(false,[.bool (ixL l).1])])
theorem r88 (l:List Term.D):run Γ88 Λ88 [(0,live88)] F88 (encA [.v (.sl Term)] l) [.mp true Term I,.id]=
 bif decide ((l.length:Int)>65536)then some (.tup [(false,[.sm true Term I []]),(false,[.bool false])])else
 bif decide ((l.length:Int)=l.length)&&decide ((l.length:Int)≤9223372036854775807)then
  bif (ixGo l 0 []).1 then some (.tup [(false,[.sm true Term I (ixGo l 0 []).2.1]),(false,[.bool true])])else some (.tup [(false,[.sm true Term I []]),(false,[.bool false])])
 else none:=by kernel_rfl
theorem g88:GoodS Tryz.prog N88 s88:=by
 refine good (.cons g104 (.nil _)) H88 rfl (by kernel_rfl) Λ88 [(0,live88)] (oneLoop (p0:=loop1 F88) (by kernel_rfl) loop88) [.v (.sl Term)] (by decide) [.mp true Term I,.id] _ fun l r hw h=> ?_
 cases h
 refine(r88 l).trans ?_
 have hmax:(l.length:Int)≤9223372036854775807:=by have:l.length≤9223372036854775807:=hw.1;omega
 simp only[decide_eq_true hmax,decide_true,Bool.and_self,cond_true,ixEnts,ixL]
 cases decide ((l.length:Int)>65536)with
 |true=>rfl
 |false=>
  simp only[cond_false]
  cases hq:(ixGo l 0 []).1<;>rfl
def checkL (l:List Term.D):Int:=bif (ixL l).1 then 0 else 1
def Γ49:Orc:=orc [(N88,s88)]
theorem r49 (l:List Term.D):run Γ49 noL [] F49 (encA [.v (.sl Term)] l) []=bif !(ixL l).1 then some (.one (.int .i64 1))else some (.one (.int .i64 0)):=by kernel_rfl
def s49:Sp:= .fn [.v (.sl Term)] fun l=>(true,.one (.int .i64 (checkL l)))
theorem g49:GoodS Tryz.prog N49 s49:=by
 refine good (.cons g88 (.nil _)) H49 rfl (by kernel_rfl) noL [] (noLoops (by kernel_rfl)) [.v (.sl Term)] (by decide) [] _ fun l r hw h=> ?_
 cases h
 refine(r49 l).trans ?_
 unfold checkL
 cases (ixL l).1<;>rfl
def findBad (l:List Term.D) (t:Term.D):Bool:=bif !(ixL l).1 then true else !mayB t l.length
def findL (l:List Term.D) (t:Term.D):Int×Int:=
 bif findBad l t then(0,1)else bif !mhas t (ixEnts l)then(0,4)else(mgetD t (ixEnts l),0)
def Γ103:Orc:=orc [(N88,s88),(N104,s104)]
theorem r103 (l:List Term.D) (t:Term.D):run Γ103 noL [] F103 (encA [.v (.sl Term),.v Term] (l,t)) []=
 bif findBad l t then some (.tup [(false,[.int .i64 0]),(false,[.int .i64 1])])else
 bif !mhas t (ixEnts l)then some (.tup [(false,[.int .i64 0]),(false,[.int .i64 4])])else some (.tup [(false,[.int .i64 (mgetD t (ixEnts l))]),(false,[.int .i64 0])]):=by kernel_rfl
def s103:Sp:= .fn [.v (.sl Term),.v Term] fun x=>(true,.tup [(false,[.int .i64 (findL x.1 x.2).1]),(false,[.int .i64 (findL x.1 x.2).2])])
theorem g103:GoodS Tryz.prog N103 s103:=by
 refine good (.cons g88 (.cons g104 (.nil _))) H103 rfl (by kernel_rfl) noL [] (noLoops (by kernel_rfl)) [.v (.sl Term),.v Term] (by decide) [] _ fun x r hw h=> ?_
 obtain⟨l,t⟩:=x
 cases h
 refine(r103 l t).trans ?_
 simp only[findL]
 cases findBad l t<;>cases !mhas t (ixEnts l)<;>rfl
def makeL (l:List Term.D) (t:Term.D):Int×List Term.D×Int:=
 bif (findL l t).2==0 then((findL l t).1,l,0)else bif (findL l t).2 != 4 then(0,[],(findL l t).2)else bif (l.length:Int)==65536 then(0,[],6)else(l.length,l++[t],0)
def Γ84:Orc:=orc [(N47,s47),(N103,s103)]
theorem r84 (l:List Term.D) (t:Term.D):run Γ84 noL [] F84 (encA [.v (.sl Term),.v Term] (l,t)) [.id,.sl true Term,.id]=
 bif (findL l t).2==0 then(bif small24 l.length then some (.tup [(false,[.int .i64 (findL l t).1]),(false,[.sl true Term none l]),(false,[.int .i64 0])])else none)else
 bif (findL l t).2 != 4 then some (.tup [(false,[.int .i64 0]),(false,[.sl true Term none []]),(false,[.int .i64 (findL l t).2])])else
 bif (l.length:Int)==65536 then some (.tup [(false,[.int .i64 0]),(false,[.sl true Term none []]),(false,[.int .i64 6])])else
 bif small24 l.length then(bif decide ((l.length+[t].length)*24≤140737488355328)then some (.tup [(false,[.int .i64 l.length]),(false,[.sl true Term none (l++[t])]),(false,[.int .i64 0])])else none)else none:=by kernel_rfl
theorem ixL_len {l:List Term.D} (h:(ixL l).1=true):l.length≤65536:=by
 unfold ixL at h
 cases hd:decide ((l.length:Int)>65536)with
 |true=>rw[hd]at h;cases h
 |false=>simp at hd;omega
theorem findL_ok {l:List Term.D} {t:Term.D} (h:(findL l t).2=0∨(findL l t).2=4):(ixL l).1=true:=by
 unfold findL findBad at h
 cases hq:(ixL l).1 with
 |true=>rfl
 |false=>rw[hq]at h;simp at h
theorem small_of {n:Nat} (h:n≤65536):small24 n=true:=decide_eq_true (by omega)
def s84:Sp:= .fn [.v (.sl Term),.v Term] fun x=>(true,.tup [(false,[.int .i64 (makeL x.1 x.2).1]),(false,[.sl true Term none (makeL x.1 x.2).2.1]),(false,[.int .i64 (makeL x.1 x.2).2.2])])
theorem g84:GoodS Tryz.prog N84 s84:=by
 refine good (.cons g47 (.cons g103 (.nil _))) H84 rfl (by kernel_rfl) noL [] (noLoops (by kernel_rfl)) [.v (.sl Term),.v Term] (by decide) [.id,.sl true Term,.id] _ fun x r hw h=> ?_
 obtain⟨l,t⟩:=x
 cases h
 refine(r84 l t).trans ?_
 simp only[makeL]
 cases h0:(findL l t).2==0 with
 |true=>
  rw[small_of (ixL_len (findL_ok (.inl (eq_of_beq h0))))];rfl
 |false=>
  cases h4:(findL l t).2 != 4 with
  |true=>rfl
  |false=>
   have hl:=ixL_len (findL_ok (.inr (by simpa using h4)))
   cases (l.length:Int)==65536 with
   |true=>rfl
   |false=>
    have:decide ((l.length+[t].length)*24≤140737488355328)=true:=decide_eq_true (by simp;omega)
    rw[small_of hl,this];rfl
theorem checkL_cases (l:List Term.D):(checkL l=0∧(ixL l).1=true)∨(checkL l=1∧(ixL l).1=false):=by
 unfold checkL
 cases (ixL l).1
 ·exact .inr ⟨rfl,rfl⟩
 ·exact .inl ⟨rfl,rfl⟩
theorem eqT {a b:Term.D}:eqD Term a b=true↔a=b:=by
 obtain⟨a1,a2,a3⟩:=a
 obtain⟨b1,b2,b3⟩:=b
 simp [eqD]
theorem eqT_false {a b:Term.D}:eqD Term a b=false↔a≠b:=by
 rw[Ne,←eqT];simp
def entsFrom:List Term.D→Int→Ents
 |[],_=>[]
 |t::r,i=>(t,i)::entsFrom r (i+1)
theorem mget_ents_none {t:Term.D}: ∀ {l:List Term.D} {i:Int},mget t (entsFrom l i)=none↔t ∉ l:=by
 intro l
 induction l with
 |nil=>intro i;simp [entsFrom,mget]
 |cons a l ih=>
  intro i
  simp only[entsFrom,mget]
  cases h:eqD Term t a with
  |true=>simp [eqT.1 h]
  |false=>
   have:=eqT_false.1 h
   simp only[cond_false,ih,List.mem_cons,this,false_or]
theorem mget_ents_some {t:Term.D} {x:Int}: ∀ {l:List Term.D} {i:Int},mget t (entsFrom l i)=some x→ ∃j:Nat,l[j]? =some t∧x=i+j:=by
 intro l
 induction l with
 |nil=>intro i h;simp [entsFrom,mget]at h
 |cons a l ih=>
  intro i h
  simp only[entsFrom,mget]at h
  cases hq:eqD Term t a with
  |true=>
   rw[hq]at h
   simp only[cond_true,Option.some.injEq]at h
   exact⟨0,by simp [eqT.1 hq],by simp [h]⟩
  |false=>
   rw[hq]at h
   obtain⟨j,h1,h2⟩:=ih h
   exact⟨j+1,by simpa using h1,by omega⟩
theorem mput_ents {t:Term.D}: ∀ {l:List Term.D} {i x:Int},t ∉ l→x=i+l.length→mput t x (entsFrom l i)=entsFrom (l++[t]) i:=by
 intro l
 induction l with
 |nil=>intro i x _ hx;simp [entsFrom,mput]at hx⊢;exact hx
 |cons a l ih=>
  intro i x hn hx
  simp only[List.mem_cons,not_or]at hn
  simp only[List.cons_append,entsFrom,mput,eqT_false.2 hn.1,cond_false]
  rw[ih hn.2 (by simp at hx;omega)]
theorem mhas_ents {t:Term.D} {l:List Term.D} {i:Int}:mhas t (entsFrom l i)=true↔t∈l:=by
 unfold mhas
 cases h:mget t (entsFrom l i)with
 |none=>simp [mget_ents_none.1 h]
 |some x=>
  obtain⟨j,h1,_⟩:=mget_ents_some h
  simp [List.mem_of_getElem? h1]
theorem mhas_ents_false {t:Term.D} {l:List Term.D} {i:Int}:mhas t (entsFrom l i)=false↔t ∉ l:=by
 rw[←mhas_ents (i:=i)];simp
def GoodL (l:List Term.D):Prop:=l.length≤65536∧ ∀(j:Nat) (t:Term.D),l[j]? =some t→mayB t j=true∧t ∉ l.take j
theorem ixGo_spec: ∀(r p:List Term.D),((ixGo r p.length (entsFrom p 0)).1=true↔ ∀(j:Nat) (t:Term.D),r[j]? =some t→mayB t ((p.length:Int)+j)=true∧t ∉ p++r.take j)∧
 ((ixGo r p.length (entsFrom p 0)).1=true→(ixGo r p.length (entsFrom p 0)).2.1 =entsFrom (p++r) 0):=by
 intro r
 induction r with
 |nil=>intro p;simp [ixGo]
 |cons a r ih=>
  intro p
  simp only[ixGo,ixBad]
  cases h1:mhas a (entsFrom p 0)with
  |true=>
   have:=mhas_ents.1 h1
   refine⟨⟨fun h=>(by simp at h),fun h=> ?_⟩,fun h=>by simp at h⟩
   exact absurd (h 0 a rfl).2 (by simp [this])
  |false=>
   have h1:=mhas_ents_false.1 h1
   cases h2:mayB a p.length with
   |false=>
    refine⟨⟨fun h=>(by simp at h),fun h=> ?_⟩,fun h=>by simp at h⟩
    have:=(h 0 a rfl).1
    simp [h2]at this
   |true=>
    simp only[cond_false,Bool.not_true]
    have e1:(p.length:Int)+1=((p++[a]).length:Nat):=by simp
    rw[mput_ents h1 (by omega),e1]
    obtain⟨g1,g2⟩:=ih (p++[a])
    refine⟨g1.trans ⟨fun h j t hj=> ?_,fun h j t hj=> ?_⟩,fun h=>by rw[g2 h];simp⟩
    ·cases j with
     |zero=>
      simp only[List.getElem?_cons_zero,Option.some.injEq]at hj
      subst hj
      simpa [h2]using h1
     |succ j=>
      have:=h j t (by simpa using hj)
      refine⟨?_,by simpa using this.2⟩
      have h3:=this.1
      rw[←e1]at h3
      rw[←h3];congr 1;omega
    ·have:=h (j+1) t (by simpa using hj)
     refine⟨?_,by simpa using this.2⟩
     have h3:=this.1
     rw[←e1,←h3];congr 1;omega
theorem ixL_iff {l:List Term.D}:(ixL l).1=true↔GoodL l:=by
 unfold ixL
 cases h:decide ((l.length:Int)>65536)with
 |true=>
  refine⟨fun h=>(by simp at h),fun h'=> ?_⟩
  have:=h'.1
  simp at h;omega
 |false=>
  simp only[cond_false]
  have:=(ixGo_spec l []).1
  simp only[List.length_nil,List.nil_append,entsFrom]at this
  refine this.trans ⟨fun h2=>⟨by simp at h;omega,fun j t hj=> ?_⟩,fun h2 j t hj=> ?_⟩
  ·have:=h2 j t hj;simpa using this
  ·have:=h2.2 j t hj;simpa using this
theorem checkL_iff {l:List Term.D}:checkL l=0↔GoodL l:=by
 rw[←ixL_iff]
 rcases checkL_cases l with⟨h,h'⟩|⟨h,h'⟩<;>simp [h,h']
theorem ixEnts_eq {l:List Term.D} (h:GoodL l):ixEnts l=entsFrom l 0:=by
 have h1:=ixL_iff.2 h
 unfold ixEnts
 rw[h1]
 simp only[cond_true]
 unfold ixL at h1⊢
 cases hd:decide ((l.length:Int)>65536)with
 |true=>rw[hd]at h1;simp at h1
 |false=>
  rw[hd]at h1
  simp only[cond_false]at h1⊢
  have:=(ixGo_spec l []).2 h1
  simpa [entsFrom]using this
theorem GoodL.uniq {l:List Term.D} (h:GoodL l) {i j:Nat} {t:Term.D} (hi:l[i]? =some t) (hj:l[j]? =some t):i=j:=by
 rcases Nat.lt_trichotomy i j with hlt|he|hlt
 ·exact absurd (List.mem_of_getElem? (show(l.take j)[i]? =some t by rw[List.getElem?_take,if_pos hlt];exact hi)) (h.2 j t hj).2
 ·exact he
 ·exact absurd (List.mem_of_getElem? (show(l.take i)[j]? =some t by rw[List.getElem?_take,if_pos hlt];exact hj)) (h.2 i t hi).2
theorem makeL_ok {l:List Term.D} {t:Term.D} (h:(makeL l t).2.2 =0):GoodL l∧mayB t l.length=true∧ ∃i:Nat,(makeL l t).1=i∧GoodL (makeL l t).2.1 ∧(makeL l t).2.1[i]? =some t∧
 ((t∈l∧(makeL l t).2.1 =l)∨(t ∉ l∧i=l.length∧l.length<65536∧(makeL l t).2.1 =l++[t])):=by
 unfold makeL at h⊢
 have hg:(ixL l).1=true:=by
  refine findL_ok (t:=t) ?_
  cases h0:(findL l t).2==0 with
  |true=>exact .inl (eq_of_beq h0)
  |false=>
   rw[h0]at h
   cases h4:(findL l t).2 != 4 with
   |true=>rw[h4]at h;simp only[cond_true,cond_false]at h;exact .inl h
   |false=>exact .inr (by simpa using h4)
 have hG:=ixL_iff.1 hg
 have hE:=ixEnts_eq hG
 have hf:findL l t=bif !mayB t l.length then(0,1)else bif !mhas t (entsFrom l 0)then(0,4)else(mgetD t (entsFrom l 0),0):=by
  unfold findL findBad;rw[hg,hE];rfl
 cases hm:mayB t l.length with
 |false=>
  rw[hm]at hf
  simp only[Bool.not_false,cond_true]at hf
  rw[hf]at h
  simp at h
 |true=>
  rw[hm]at hf
  simp only[Bool.not_true,cond_false]at hf
  refine⟨hG,rfl, ?_⟩
  cases hh:mhas t (entsFrom l 0)with
  |true=>
   rw[hh]at hf
   simp only[Bool.not_true,cond_false]at hf
   have hmem:=mhas_ents.1 hh
   have: ∃x,mget t (entsFrom l 0)=some x:=by
    unfold mhas at hh
    cases hq:mget t (entsFrom l 0)with
    |none=>rw[hq]at hh;cases hh
    |some x=>exact⟨x,rfl⟩
   obtain⟨x,hx⟩:=this
   obtain⟨j,hj,hxj⟩:=mget_ents_some hx
   have hd:mgetD t (entsFrom l 0)=x:=(mgetD_some hx).1
   rw[hf]
   simp only[beq_self_eq_true,cond_true]
   exact⟨j,by rw[hd,hxj];simp,hG,hj,.inl ⟨hmem,trivial⟩⟩
  |false=>
   rw[hh]at hf
   simp only[Bool.not_false,cond_true]at hf
   have hmem:=mhas_ents_false.1 hh
   rw[hf]at h⊢
   cases h6:(l.length:Int)==65536 with
   |true=>rw[h6]at h;simp at h
   |false=>
    have h6':l.length≠65536:=fun e=>by rw[e]at h6;cases h6
    have hl:=hG.1
    show ∃i:Nat,(l.length:Int)=i∧GoodL (l++[t])∧(l++[t])[i]? =some t∧_
    refine⟨l.length,rfl,⟨by simp;omega,fun j s hj=> ?_⟩,by simp,.inr ⟨hmem,rfl,by omega,rfl⟩⟩
    rcases Nat.lt_or_ge j l.length with hlt|hge
    ·rw[List.getElem?_append_left hlt]at hj
     rw[List.take_append_of_le_length (by omega)]
     exact hG.2 j s hj
    ·have hjl:j<(l++[t]).length:=(List.getElem?_eq_some_iff.1 hj).1
     obtain rfl:j=l.length:=by simp at hjl;omega
     simp only[List.getElem?_concat_length,Option.some.injEq]at hj
     subst hj
     simpa [hm]using hmem
theorem makeL_may {l:List Term.D} {t:Term.D} (h:GoodL l) (hm:mayB t l.length=true) (hl:l.length<65536):(makeL l t).2.2 =0:=by
 have hg:=ixL_iff.2 h
 have hE:=ixEnts_eq h
 have hf:findL l t=bif !mhas t (entsFrom l 0)then(0,4)else(mgetD t (entsFrom l 0),0):=by
  unfold findL findBad;rw[hg,hE,hm];rfl
 unfold makeL
 rw[hf]
 cases hh:mhas t (entsFrom l 0)with
 |true=>rfl
 |false=>
  have:((l.length:Int)==65536)=false:=by simp;omega
  simp only[Bool.not_false,cond_true,this]
  rfl
theorem mayB_part {k i n:Int} (hk:k=2∨k=3∨k=4) (h0:0≤i) (h1:i<n):mayB (k,i,0) n=true:=by
 have hb:badP n i=false:=by unfold badP;rw[decide_eq_false (by omega)];simp;omega
 rcases hk with rfl|rfl|rfl<;>simp [mayB,mayBad,partsL,hb]
theorem makeL_len (l:List Term.D) (t:Term.D):(makeL l t).2.1.length ≤l.length+1:=by
 unfold makeL
 cases (findL l t).2==0<;>cases (findL l t).2 != 4<;>cases (l.length:Int)==65536<;>simp
theorem tAt_get {l:List Term.D} {i:Nat} {t:Term.D} (h:l[i]? =some t):tAt l i=t:=by
 unfold tAt
 simp [List.getD_eq_getElem?_getD,h]
def xorU (a b:Int):Int:=IntKind.u64.wrap (BitVec.ofInt 64 a^^^BitVec.ofInt 64 b).toNat
def xorB (a b:Block.D):Block.D:=(xorU a.1 b.1,xorU a.2 b.2)
abbrev live86:List (Nat×Dir):=[(2,.keep),(4,.keep),(7,.keep),(8,.keep)]
def Λ86:Lam AV:=fun cur vs K=>
 match cur,vs with
 |0,[.own [.int .u64 a,.int .u64 b],.own [.int .u64 e,.int .u64 f],.agg [.int .u64 c,.int .u64 d],.one (.int .i64 0)]=>
  K (.exit 0) [.own [.int .u64 (xorU a c),.int .u64 (xorU b d)],.own [.int .u64 e,.int .u64 f],.agg [.int .u64 c,.int .u64 d],.one (.int .i64 2)]
 |_,_=>none
theorem loop86:LoopP tb (orc []) Λ86 ⟨20,0,[(0,live86)]⟩ (loop1 F86):=by
 intro vs K out h
 have hcur:(loop1 F86).1=0:=by kernel_rfl
 rw[hcur]at h⊢
 unfold Λ86 at h
 split at h
 ·rename_i a b e f c d _
  refine⟨3,Eq.trans ?_ h⟩
  kernel_rfl
 ·cases h
def s86:Sp:= .fn [.v Block,.v Block] fun x=>(true,encV Block (xorB x.1 x.2))
theorem r86 (x y:Block.D):run (orc []) Λ86 [(0,live86)] F86 (encA [.v Block,.v Block] (x,y)) []=some (encV Block (xorB x y)):=by kernel_rfl
theorem g86:GoodS Tryz.prog N86 s86:=by
 refine good (.nil _) H86 rfl (by kernel_rfl) Λ86 [(0,live86)] (oneLoop (p0:=loop1 F86) (by kernel_rfl) loop86) [.v Block,.v Block] (by decide) [] _ fun x r hw h=> ?_
 cases h
 exact r86 x.1 x.2
def rotN (n:Int):Int:=IntKind.u64.wrap (BitVec.ofInt 64 (IntKind.u64.wrap n)&&&BitVec.ofInt 64 63).toNat
def rotU (a n:Int):Int:=IntKind.u64.wrap (BitVec.ofInt 64 (IntKind.u64.wrap (a*2^min (rotN n).toNat 64))|||BitVec.ofInt 64 (a.fdiv (2^min (IntKind.u64.wrap (64-rotN n)).toNat 64))).toNat
theorem r106 (a n:Int):run (orc []) noL [] F106 (encA [.v U,.v I] (a,n)) []=bif decide (0≤rotN n)then(bif decide (0≤IntKind.u64.wrap (64-rotN n))then some (.one (.int .u64 (rotU a n)))else none)else none:=by kernel_rfl
def s106:Sp:= .fn [.v U,.v I] fun x=>(true,.one (.int .u64 (rotU x.1 x.2)))
theorem g106:GoodS Tryz.prog N106 s106:=by
 refine good (.nil _) H106 rfl (by kernel_rfl) noL [] (noLoops (by kernel_rfl)) [.v U,.v I] (by decide) [] _ fun x r hw h=> ?_
 cases h
 refine(r106 x.1 x.2).trans ?_
 rw[decide_eq_true (show 0≤rotN x.2 from wrapU_nonneg _),decide_eq_true (wrapU_nonneg (64-rotN x.2))]
 rfl
def mixStep (k:Int) (x:Block.D):Block.D:=
 let a:=rotU (IntKind.u64.wrap (IntKind.u64.wrap (x.1+x.2)+IntKind.u64.wrap (k*11400714819323198485))) 13
 let b:=rotU (xorU x.2 a) 29
 (xorU a b,b)
def mixGo:Nat→Int→Block.D→Block.D
 |0,_,x=>x
 |n+1,k,x=>mixGo n (k+1) (mixStep k x)
def mixB (x:Block.D):Block.D:=mixGo 8 0 x
abbrev live92:List (Nat×Dir):=[(2,.keep),(3,.keep),(4,.keep),(10,.keep)]
def Γ92:Orc:=orc [(N106,s106)]
def Λ92:Lam AV:=fun cur vs K=>
 match cur,vs with
 |0,[.own [.int .u64 e,.int .u64 f],.one (.int .u64 x),.one (.int .u64 y),.one (.int .u64 0)]=>
  K (.exit 0) [.own [.int .u64 e,.int .u64 f],.one (.int .u64 (mixB (x,y)).1),.one (.int .u64 (mixB (x,y)).2),.one (.int .u64 8)]
 |_,_=>none
theorem step92 (e f x y k:Int) (K:AE→List AV→Option AV) (fuel:Nat):
 loopN (aexec tb Γ92 Λ92 ⟨31,0,[(0,live92)]⟩ (loop1 F92).2 0) 31 0 live92 K (fuel+1) [.own [.int .u64 e,.int .u64 f],.one (.int .u64 x),.one (.int .u64 y),.one (.int .u64 k)]=
 bif decide (k<8)then loopN (aexec tb Γ92 Λ92 ⟨31,0,[(0,live92)]⟩ (loop1 F92).2 0) 31 0 live92 K fuel
     [.own [.int .u64 e,.int .u64 f],.one (.int .u64 (mixStep k (x,y)).1),.one (.int .u64 (mixStep k (x,y)).2),.one (.int .u64 (IntKind.u64.wrap (k+1)))]
 else K (.exit 0) [.own [.int .u64 e,.int .u64 f],.one (.int .u64 x),.one (.int .u64 y),.one (.int .u64 k)]:=by kernel_rfl
theorem loop92:LoopP tb Γ92 Λ92 ⟨31,0,[(0,live92)]⟩ (loop1 F92):=by
 intro vs K out h
 have hcur:(loop1 F92).1=0:=by kernel_rfl
 rw[hcur]at h⊢
 unfold Λ92 at h
 split at h
 ·rename_i e f x y _
  have key: ∀(n:Nat) (k:Int) (x y:Int),k+n=8→0≤k→K (.exit 0) [.own [.int .u64 e,.int .u64 f],.one (.int .u64 (mixGo n k (x,y)).1),.one (.int .u64 (mixGo n k (x,y)).2),.one (.int .u64 8)]=some out→
   ∃fuel,loopN (aexec tb Γ92 Λ92 ⟨31,0,[(0,live92)]⟩ (loop1 F92).2 0) 31 0 live92 K fuel [.own [.int .u64 e,.int .u64 f],.one (.int .u64 x),.one (.int .u64 y),.one (.int .u64 k)]=some out:=by
   intro n
   induction n with
   |zero=>
    intro k x y hk _ h
    obtain rfl:k=8:=by omega
    refine⟨1, ?_⟩
    rw[step92]
    exact h
   |succ n ih=>
    intro k x y hk h0 h
    obtain⟨fuel,hf⟩:=ih (k+1) (mixStep k (x,y)).1 (mixStep k (x,y)).2 (by omega) (by omega) h
    refine⟨fuel+1, ?_⟩
    rw[step92,decide_eq_true (show k<8 by omega),wrapU (by omega) (by omega)]
    exact hf
  exact key 8 0 x y rfl (Int.le_refl 0) h
 ·cases h
def s92:Sp:= .fn [.v Block] fun x=>(true,encV Block (mixB x))
theorem r92 (x:Block.D):run Γ92 Λ92 [(0,live92)] F92 (encA [.v Block] x) []=some (encV Block (mixB x)):=by kernel_rfl
theorem g92:GoodS Tryz.prog N92 s92:=by
 refine good (.cons g106 (.nil _)) H92 rfl (by kernel_rfl) Λ92 [(0,live92)] (oneLoop (p0:=loop1 F92) (by kernel_rfl) loop92) [.v Block] (by decide) [] _ fun x r hw h=> ?_
 cases h
 exact r92 x
def partB (b:Block.D) (i:Int):Block.D:=xorB (mixB (xorB b (IntKind.u64.wrap (IntKind.i64.wrap (i+1)),0))) b
def Γ53:Orc:=orc [(N86,s86),(N92,s92)]
theorem r53 (b:Block.D) (i:Int):run Γ53 noL [] F53 (encA [.v Block,.v I] (b,i)) []=
 bif bif decide (i<0)then true else decide (i>4)then some (.tup [(true,enc Block true (0,0)),(false,[.int .i64 1])])else
 some (.tup [(true,enc Block true (partB b i)),(false,[.int .i64 0])]):=by kernel_rfl
def partR (b:Block.D) (i:Int):Block.D×Int:=bif bif decide (i<0)then true else decide (i>4)then((0,0),1)else(partB b i,0)
def s53:Sp:= .fn [.v Block,.v I] fun x=>(true,.tup [(true,enc Block true (partR x.1 x.2).1),(false,[.int .i64 (partR x.1 x.2).2])])
theorem g53:GoodS Tryz.prog N53 s53:=by
 refine good (.cons g86 (.cons g92 (.nil _))) H53 rfl (by kernel_rfl) noL [] (noLoops (by kernel_rfl)) [.v Block,.v I] (by decide) [] _ fun x r hw h=> ?_
 cases h
 refine(r53 x.1 x.2).trans ?_
 unfold partR
 cases bif decide (x.2<0)then true else decide (x.2>4)<;>rfl
def zeroV:Value.D:=(false,false,(0,0),((0,0),(0,0)),0)
def symV (i:Int):Value.D:=(true,false,(0,0),((0,0),(0,0)),i)
def sealV (s:Sealed.D):Value.D:=(false,true,(0,0),s,0)
def octV (b:Block.D):Value.D:=(false,false,b,((0,0),(0,0)),0)
def valEq (a b:Value.D):Bool:=
 (a.1==b.1)&&((a.2.1 ==b.2.1)&&((a.2.2.1.1 ==b.2.2.1.1)&&((a.2.2.1.2 ==b.2.2.1.2)&&((a.2.2.2.1.1.1 ==b.2.2.2.1.1.1)&&((a.2.2.2.1.1.2 ==b.2.2.2.1.1.2)&&
   ((a.2.2.2.1.2.1 ==b.2.2.2.1.2.1)&&((a.2.2.2.1.2.2 ==b.2.2.2.1.2.2)&&(a.2.2.2.2 ==b.2.2.2.2))))))))
def vle (x:Value.D×List Term.D×Int):AV:= .tup [(true,enc Value true x.1),(false,[.sl true Term none x.2.1]),(false,[.int .i64 x.2.2])]
abbrev wVle:List WK:=[.id,.sl true Term,.id]
def Γ45:Orc:=orc [(N84,s84)]
def madeV (l:List Term.D) (t:Term.D):Value.D×List Term.D×Int:=bif (makeL l t).2.2 != 0 then(zeroV,[],(makeL l t).2.2)else(symV (makeL l t).1,(makeL l t).2.1,0)
theorem r45 (l:List Term.D) (t:Term.D):run Γ45 noL [] F45 (encA [.v (.sl Term),.v Term] (l,t)) wVle=
 bif (makeL l t).2.2 != 0 then some (vle (zeroV,[],(makeL l t).2.2))else some (vle (symV (makeL l t).1,(makeL l t).2.1,0)):=by kernel_rfl
def s45:Sp:= .fn [.v (.sl Term),.v Term] fun x=>(true,vle (madeV x.1 x.2))
theorem g45:GoodS Tryz.prog N45 s45:=by
 refine good (.cons g84 (.nil _)) H45 rfl (by kernel_rfl) noL [] (noLoops (by kernel_rfl)) [.v (.sl Term),.v Term] (by decide) wVle _ fun x r hw h=> ?_
 cases h
 refine(r45 x.1 x.2).trans ?_
 simp only[madeV]
 cases (makeL x.1 x.2).2.2 != 0<;>rfl
def Γ19:Orc:=orc [(N49,s49)]
def isSym (l:List Term.D) (v:Value.D):Bool:=bif bif v.1 then decide (v.2.2.2.2 ≥0)else false then decide (v.2.2.2.2 <(l.length:Int))else false
def plainV (l:List Term.D) (v:Value.D):Value.D:=bif isSym l v then symV v.2.2.2.2 else bif v.2.1 then sealV v.2.2.2.1 else octV v.2.2.1
def checkV (l:List Term.D) (v:Value.D):Int:=bif bif checkL l==0 then !valEq v (plainV l v)else false then 1 else checkL l
def fin19 (l:List Term.D) (v p:Value.D):Option AV:=bif bif checkL l==0 then !valEq v p else false then some (.one (.int .i64 1))else some (.one (.int .i64 (checkL l)))
theorem r19 (l:List Term.D) (v:Value.D):run Γ19 noL [] F19 (encA [.v (.sl Term),.v Value] (l,v)) []=
 bif isSym l v then fin19 l v (symV v.2.2.2.2)else bif v.2.1 then fin19 l v (sealV v.2.2.2.1)else fin19 l v (octV v.2.2.1):=by kernel_rfl
def s19:Sp:= .fn [.v (.sl Term),.v Value] fun x=>(true,.one (.int .i64 (checkV x.1 x.2)))
theorem g19:GoodS Tryz.prog N19 s19:=by
 refine good (.cons g49 (.nil _)) H19 rfl (by kernel_rfl) noL [] (noLoops (by kernel_rfl)) [.v (.sl Term),.v Value] (by decide) [] _ fun x r hw h=> ?_
 obtain⟨l,v⟩:=x
 cases h
 refine(r19 l v).trans ?_
 simp only[checkV,plainV,fin19]
 cases isSym l v<;>cases v.2.1 <;>simp only[cond_true,cond_false]<;>(cases bif checkL l==0 then !valEq v _ else false)<;>rfl
abbrev live44:List (Nat×Dir):=[(0,.keep),(1,.keep),(2,.keep),(6,.keep),(11,.keep),(12,.keep),(13,.keep)]
def Γ44:Orc:=orc [(N19,s19)]
def vs44 (l:List Term.D) (sh:List Bool) (all al2:List Value.D) (r n i:Int):List AV:=
 [.one (.sl false Term none l),.one (.sl false .bool none sh),.one (.sl false Value none all),.one (.int .i64 r),.one (.sl false Value none al2),.one (.int .i64 n),.one (.int .i64 i)]
def ownV (l:List Term.D) (v:Value.D):Bool:=bif v.1 then(tAt l v.2.2.2.2).1==5 else v.2.1
def isGo (l:List Term.D) (sh:List Bool) (v0:Value.D):List Value.D→Nat→Int
 |[],_=>0
 |v::r,i=>bif checkV l v != 0 then checkV l v else bif !(ownV l v==sh.getD i false)then 1 else bif !(v.1==v0.1)then 1 else isGo l sh v0 r (i+1)
def isAt (l:List Term.D) (sh:List Bool) (v0:Value.D):List Value.D→Nat→Nat
 |[],i=>i
 |v::r,i=>bif checkV l v != 0 then i else bif !(ownV l v==sh.getD i false)then i else bif !(v.1==v0.1)then i else isAt l sh v0 r (i+1)
def vAt (all:List Value.D) (i:Int):Value.D:=all.getD i.toNat zeroV
def Λ44:Lam AV:=fun cur vs K=>
 match cur,vs with
 |0,[.one (.sl false (.pair (.int .i64) (.pair (.int .i64) (.int .i64))) none l),.one (.sl false .bool none sh),.one (.sl false (.pair .bool (.pair .bool (.pair (.pair (.int .u64) (.int .u64)) (.pair (.pair (.pair (.int .u64) (.int .u64)) (.pair (.int .u64) (.int .u64))) (.int .i64))))) none all),
   .one (.int .i64 0),.one (.sl false (.pair .bool (.pair .bool (.pair (.pair (.int .u64) (.int .u64)) (.pair (.pair (.pair (.int .u64) (.int .u64)) (.pair (.int .u64) (.int .u64))) (.int .i64))))) none al2),.one (.int .i64 n),.one (.int .i64 0)]=>
  bif decide (n=al2.length)&&decide (n≤9223372036854775807)&&decide (al2.length≤sh.length)&&decide (al2.length≤all.length)then
   bif isGo l sh (vAt all 0) al2 0==0 then K (.exit 0) (vs44 l sh all al2 0 n n)else K .ret (vs44 l sh all al2 (isGo l sh (vAt all 0) al2 0) n (isAt l sh (vAt all 0) al2 0))
  else none
 |_,_=>none
theorem step44 (l:List Term.D) (sh:List Bool) (all al2:List Value.D) (r n i:Int) (K:AE→List AV→Option AV) (fuel:Nat):
 loopN (aexec tb Γ44 Λ44 ⟨51,0,[(0,live44)]⟩ (loop1 F44).2 0) 51 0 live44 K (fuel+1) (vs44 l sh all al2 r n i)=
 bif decide (i<n)then
  bif inB i al2.length then
   bif checkV l (vAt al2 i) != 0 then K .ret (vs44 l sh all al2 (checkV l (vAt al2 i)) n i)
   else bif (vAt al2 i).1 then
    bif inB (vAt al2 i).2.2.2.2 l.length then
     bif inB i sh.length then
      bif !((tAt l (vAt al2 i).2.2.2.2).1==5)==sh.getD i.toNat false then K .ret (vs44 l sh all al2 1 n i)
      else bif inB 0 all.length then
       bif !((vAt al2 i).1==(vAt all 0).1)then K .ret (vs44 l sh all al2 1 n i)
       else loopN (aexec tb Γ44 Λ44 ⟨51,0,[(0,live44)]⟩ (loop1 F44).2 0) 51 0 live44 K fuel (vs44 l sh all al2 r n (IntKind.i64.wrap (i+1)))
      else none
     else none
    else none
   else
    bif inB i sh.length then
     bif !(vAt al2 i).2.1 ==sh.getD i.toNat false then K .ret (vs44 l sh all al2 1 n i)
     else bif inB 0 all.length then
      bif !((vAt al2 i).1==(vAt all 0).1)then K .ret (vs44 l sh all al2 1 n i)
      else loopN (aexec tb Γ44 Λ44 ⟨51,0,[(0,live44)]⟩ (loop1 F44).2 0) 51 0 live44 K fuel (vs44 l sh all al2 r n (IntKind.i64.wrap (i+1)))
     else none
    else none
  else none
 else K (.exit 0) (vs44 l sh all al2 r n i):=by kernel_rfl
theorem valEq_iff {a b:Value.D}:valEq a b=true↔a=b:=by
 obtain⟨a1,a2,⟨a3,a4⟩,⟨⟨a5,a6⟩,a7,a8⟩,a9⟩:=a
 obtain⟨b1,b2,⟨b3,b4⟩,⟨⟨b5,b6⟩,b7,b8⟩,b9⟩:=b
 simp [valEq,and_assoc]
theorem checkV_zero {l:List Term.D} {v:Value.D}:checkV l v=0↔checkL l=0∧v=plainV l v:=by
 unfold checkV
 rcases checkL_cases l with⟨h,_⟩|⟨h,_⟩
 ·rw[h]
  cases hq:valEq v (plainV l v)with
  |true=>exact⟨fun _=>⟨rfl,valEq_iff.1 hq⟩,fun _=>rfl⟩
  |false=>
   have: ¬v=plainV l v:=fun e=>by rw[valEq_iff.2 e]at hq;cases hq
   simp [this]
 ·rw[h];simp
theorem checkV_one (l:List Term.D) (v:Value.D):checkV l v=0∨checkV l v=1:=by
 unfold checkV
 rcases checkL_cases l with⟨h,_⟩|⟨h,_⟩
 ·rw[h]
  cases hq:valEq v (plainV l v)with
  |true=>exact .inl rfl
  |false=>exact .inr rfl
 ·rw[h];exact .inr rfl
theorem sym_of {l:List Term.D} {v:Value.D} (h:checkV l v=0) (hs:v.1=true):0≤v.2.2.2.2 ∧v.2.2.2.2 <l.length:=by
 have h2:=(checkV_zero.1 h).2
 cases hi:isSym l v with
 |true=>
  unfold isSym at hi
  rw[hs]at hi
  simp only[cond_true]at hi
  cases h0:decide (v.2.2.2.2 ≥0)with
  |false=>rw[h0]at hi;cases hi
  |true=>rw[h0]at hi;simp at h0 hi;exact⟨h0,hi⟩
 |false=>
  unfold plainV at h2
  rw[hi]at h2
  simp only[cond_false]at h2
  cases hb:v.2.1 with
  |true=>rw[hb]at h2;rw[h2]at hs;cases hs
  |false=>rw[hb]at h2;rw[h2]at hs;cases hs
theorem vAt_drop {all:List Value.D} {j:Nat} (h:j<all.length):all.drop j=vAt all j::all.drop (j+1):=by
 rw[List.drop_eq_getElem_cons h]
 simp [vAt,h]
theorem loop44:LoopP tb Γ44 Λ44 ⟨51,0,[(0,live44)]⟩ (loop1 F44):=by
 intro vs K out h
 have hcur:(loop1 F44).1=0:=by kernel_rfl
 rw[hcur]at h⊢
 unfold Λ44 at h
 split at h
 ·rename_i l sh all al2 n _
  cases hc:(decide (n=al2.length)&&decide (n≤9223372036854775807)&&decide (al2.length≤sh.length)&&decide (al2.length≤all.length))with
  |false=>rw[hc]at h;cases h
  |true=>
   rw[hc]at h
   simp only[cond_true]at h
   simp only[Bool.and_eq_true,decide_eq_true_eq]at hc
   obtain⟨⟨⟨hn,hmax⟩,hsh⟩,hal⟩:=hc
   subst hn
   have key: ∀(m j:Nat),j+m=al2.length→(bif isGo l sh (vAt all 0) (al2.drop j) j==0 then K (.exit 0) (vs44 l sh all al2 0 al2.length al2.length)
    else K .ret (vs44 l sh all al2 (isGo l sh (vAt all 0) (al2.drop j) j) al2.length (isAt l sh (vAt all 0) (al2.drop j) j)))=some out→
    ∃fuel,loopN (aexec tb Γ44 Λ44 ⟨51,0,[(0,live44)]⟩ (loop1 F44).2 0) 51 0 live44 K fuel (vs44 l sh all al2 0 al2.length j)=some out:=by
    intro m
    induction m with
    |zero=>
     intro j hj h
     refine⟨1, ?_⟩
     rw[step44]
     have hd:decide ((j:Int)<(al2.length:Int))=false:=by simp;omega
     rw[List.drop_of_length_le (by omega)]at h
     rw[hd,show(j:Int)=al2.length by omega]
     exact h
    |succ m ih=>
     intro j hj h
     have hlt:j<al2.length:=by omega
     have hd:decide ((j:Int)<(al2.length:Int))=true:=by simp;omega
     have hb:inB (j:Int) al2.length=true:=by simp [inB];omega
     have hb2:inB (j:Int) sh.length=true:=by simp [inB];omega
     have hb0:inB (0:Int) all.length=true:=by simp [inB];omega
     rw[vAt_drop hlt]at h
     simp only[isGo,isAt]at h
     cases hx:checkV l (vAt al2 j) != 0 with
     |true=>
      refine⟨1, ?_⟩
      rw[step44,hd,hb]
      simp only[cond_true,hx]
      have hz:(checkV l (vAt al2 j)==0)=false:=by simpa using hx
      simp only[hx,cond_true,hz,cond_false]at h
      exact h
     |false=>
      simp only[hx,cond_false]at h
      have hz:checkV l (vAt al2 j)=0:=by simpa using hx
      have fin: ∀own,ownV l (vAt al2 j)=own→ ∃fuel,(bif !own==sh.getD (j:Int).toNat false then K .ret (vs44 l sh all al2 1 al2.length j)
       else bif inB 0 all.length then
        bif !((vAt al2 j).1==(vAt all 0).1)then K .ret (vs44 l sh all al2 1 al2.length j)
        else loopN (aexec tb Γ44 Λ44 ⟨51,0,[(0,live44)]⟩ (loop1 F44).2 0) 51 0 live44 K fuel (vs44 l sh all al2 0 al2.length (IntKind.i64.wrap (j+1)))
       else none)=some out:=by
       intro own ho
       rw[ho]at h
       simp only[Int.toNat_natCast,hb0,cond_true]
       cases h1: !own==sh.getD j false with
       |true=>
        refine⟨0, ?_⟩
        simp only[h1,cond_true]at h⊢
        exact h
       |false=>
        simp only[h1,cond_false]at h⊢
        cases h2: !((vAt al2 j).1==(vAt all 0).1)with
        |true=>
         refine⟨0, ?_⟩
         simp only[h2,cond_true]at h⊢
         exact h
        |false=>
         simp only[h2,cond_false]at h⊢
         obtain⟨fuel,hf⟩:=ih (j+1) (by omega) h
         refine⟨fuel, ?_⟩
         rw[wrap64 (by omega) (by omega)]
         exact hf
      cases hv:(vAt al2 j).1 with
      |true=>
       obtain⟨fuel,hf⟩:=fin _ (by unfold ownV;rw[hv])
       refine⟨fuel+1, ?_⟩
       obtain⟨s1,s2⟩:=sym_of hz hv
       have hbt:inB (vAt al2 j).2.2.2.2 l.length=true:=by simp only[inB,Bool.and_eq_true,decide_eq_true_eq];exact⟨s1,s2⟩
       rw[step44,hd,hb]
       simp only[cond_true,hx,cond_false,hv,hbt,hb2]at hf⊢
       exact hf
      |false=>
       obtain⟨fuel,hf⟩:=fin _ (by unfold ownV;rw[hv])
       refine⟨fuel+1, ?_⟩
       rw[step44,hd,hb]
       simp only[cond_true,hx,cond_false,hv,hb2]at hf⊢
       exact hf
   exact key al2.length 0 (by omega) h
 ·cases h
def isV (l:List Term.D) (sh:List Bool) (all:List Value.D):Int:=isGo l sh (vAt all 0) all 0
theorem r44 (l:List Term.D) (sh:List Bool) (all:List Value.D):run Γ44 Λ44 [(0,live44)] F44 (encA [.v (.sl Term),.v (.sl .bool),.v (.sl Value)] (l,sh,all)) []=
 bif decide ((all.length:Int)=all.length)&&decide ((all.length:Int)≤9223372036854775807)&&decide (all.length≤sh.length)&&decide (all.length≤all.length)then
  bif isV l sh all==0 then some (.one (.int .i64 0))else some (.one (.int .i64 (isV l sh all)))
 else none:=by kernel_rfl
def s44:Sp:= .fn [.v (.sl Term),.v (.sl .bool),.v (.sl Value)] fun x=>(decide (x.2.2.length ≤x.2.1.length),.one (.int .i64 (isV x.1 x.2.1 x.2.2)))
theorem g44:GoodS Tryz.prog N44 s44:=by
 refine good (.cons g19 (.nil _)) H44 rfl (by kernel_rfl) Λ44 [(0,live44)] (oneLoop (p0:=loop1 F44) (by kernel_rfl) loop44) [.v (.sl Term),.v (.sl .bool),.v (.sl Value)] (by decide) [] _ fun x r hw h=> ?_
 obtain⟨l,sh,all⟩:=x
 simp only[Prod.mk.injEq]at h
 obtain⟨h1,rfl⟩:=h
 refine(r44 l sh all).trans ?_
 have hmax:(all.length:Int)≤9223372036854775807:=by have:all.length≤9223372036854775807:=hw.2.2.1;omega
 simp only[decide_eq_true hmax,decide_true,Bool.and_self,cond_true,h1,Nat.le_refl]
 cases hq:isV l sh all==0 with
 |true=>rw[eq_of_beq hq];rfl
 |false=>rfl
theorem checkL_small {l:List Term.D} (h:checkL l=0):l.length≤65536:=by
 rcases checkL_cases l with⟨_,h1⟩|⟨h1,_⟩
 ·exact ixL_len h1
 ·rw[h1]at h;cases h
def Γ22:Orc:=orc [(N44,s44),(N45,s45),(N47,s47),(N53,s53)]
@[reducible] def P3:List AK:=[.v (.sl Term),.v Value,.v I]
def partBad (l:List Term.D) (v:Value.D) (i:Int):Bool:=bif bif isV l [false] [v] != 0 then true else decide (i<0)then true else decide (i>2)
def partV (l:List Term.D) (v:Value.D) (i:Int):Value.D×List Term.D×Int:=
 bif partBad l v i then(zeroV,[],1)else bif v.1 then madeV l (IntKind.i64.wrap (2+i),v.2.2.2.2,0)else(octV (partR v.2.2.1 i).1,l,(partR v.2.2.1 i).2)
theorem isV_one {l:List Term.D} {a:Bool} {v:Value.D}:isV l [a] [v]=0↔checkV l v=0∧ownV l v=a:=by
 unfold isV
 have e:isGo l [a] (vAt [v] 0) [v] 0=bif checkV l v != 0 then checkV l v else bif !(ownV l v==a)then 1 else 0:=by
  show isGo l [a] v [v] 0=_
  simp only[isGo,List.getD_cons_zero,beq_self_eq_true,Bool.not_true,cond_false]
 rw[e]
 rcases checkV_one l v with h1|h1<;>rw[h1]
 all_goals
  cases h3: !(ownV l v==a)<;>simp at h3<;>simp [h3]
end Go.AM.Seat
