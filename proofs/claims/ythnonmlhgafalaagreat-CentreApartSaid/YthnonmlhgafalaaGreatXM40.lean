import Derived.Test.YthnonmlhgafalaaGreatXM21
import Derived.Test.YthnonmlhgafalaaGreatXM35
set_option linter.unusedVariables false
set_option linter.unusedSimpArgs false
set_option maxRecDepth 100000
namespace Go.AM.Seat
open Go Go.AM Go.Proofs
def hn1 (h n:Int):Bool:=bif bif decide (h≥1)then decide (h≤32)else false then decide (n≥1)else false
def mayN (h n:Int):Bool:=okN h.toNat n.toNat
def chainN (n:Nat):List Int:=(List.range (n.log2+1)).map fun d=>((n/2^(n.log2-d):Nat):Int)
theorem chainN_len (n:Nat):(chainN n).length=n.log2+1:=by unfold chainN;simp
def othI (h n:Int):Int×Int:=bif !mayN h n then(0,1)else bif n==1 then(0,4)else(xorI n 1,0)
def inL (h k top:Int):List Int→List Subset.D→List Subset.D
 |[],out=>out
 |x::r,out=>inL h k top r (bif (bif k==2 then true else(useI h (top,(othI h x).1)).1)then out++[(top,(othI h x).1)]else out)
def wL (l:List Int):List Subset.D:=l.map fun x=>(x,0)
theorem chain_at {L d:Nat} (h:d≤L.log2):iAt (chainN L) (d:Int)=((L/2^(L.log2-d):Nat):Int):=by
 unfold iAt chainN
 rw[Int.toNat_natCast,List.getD_eq_getElem?_getD,List.getElem?_map,List.getElem?_range (by omega)]
 rfl
theorem LeafAt.shr {H x d:Nat} (a:LeafAt H x) (hd:d≤H):shrI ((leafN H x:Nat):Int) ((H:Int)-(d:Int))=iAt (chainN (leafN H x)) (d:Int):=by
 rw[chain_at (by rw[a.log];exact hd),a.log,show(H:Int)-(d:Int)=((H-d:Nat):Int) by omega,shr_nat (by omega) (by have:=a.h2;omega),Int.toNat_natCast,Int.toNat_natCast]
theorem LeafAt.len {H x:Nat} (a:LeafAt H x):(chainN (leafN H x)).length=H+1:=by rw[chainN_len,a.log]
theorem LeafAt.whole {H x:Nat} (a:LeafAt H x):wG (H:Int) ((leafN H x:Nat):Int) (H+1) 0 []=wL (chainN (leafN H x)):=by
 rw[wG_eq,List.nil_append]
 unfold wL chainN
 rw[a.log,List.map_map]
 apply List.map_congr_left
 intro d hd
 have hd:=List.mem_range.1 hd
 show(shrI _ ((H:Int)-((0+d:Nat):Int)),(0:Int))=(((leafN H x/2^(H-d):Nat):Int),0)
 rw[Nat.zero_add,a.shr (by omega),chain_at (by rw[a.log];omega),a.log]
def ob (b:Bool):Option AV:=some (.one (.bool b))
theorem tAt_drop {l:List Term.D} {j:Nat} (h:j<l.length):l.drop j=tAt l j::l.drop (j+1):=by
 rw[List.drop_eq_getElem_cons h]
 simp [tAt,h]
theorem len_max {l:List Term.D} (hw:l.length≤9223372036854775807):(decide ((l.length:Int)=l.length)&&decide ((l.length:Int)≤9223372036854775807))=true:=by
 have hmax:(l.length:Int)≤9223372036854775807:=by omega
 simp [hmax]
abbrev live26:List (Nat×Dir):=[(0,.keep),(1,.keep),(4,.keep),(12,.keep),(13,.keep)]
def vs26 (a b:List Term.D) (r:Bool) (n i:Int):List AV:=
 [.one (.sl false Term none a),.one (.sl false Term none b),.one (.bool r),.one (.int .i64 n),.one (.int .i64 i)]
def eqGo:List Term.D→List Term.D→Bool
 |a::l,b::m=>bif eqD Term a b then eqGo l m else false
 |_,_=>true
def eqAt:List Term.D→List Term.D→Int→Int
 |a::l,b::m,i=>bif eqD Term a b then eqAt l m (i+1)else i
 |_,_,i=>i
def Λ26:Lam AV:=fun cur vs K=>
 match cur,vs with
 |0,[.one (.sl false (.pair (.int .i64) (.pair (.int .i64) (.int .i64))) none a),.one (.sl false (.pair (.int .i64) (.pair (.int .i64) (.int .i64))) none b),.one (.bool false),.one (.int .i64 n),.one (.int .i64 0)]=>
  bif decide (n=a.length)&&decide (n≤9223372036854775807)&&decide (a.length=b.length)then
   bif eqGo a b then K (.exit 0) (vs26 a b false n n)else K .ret (vs26 a b false n (eqAt a b 0))
  else none
 |_,_=>none
theorem step26 (a b:List Term.D) (r:Bool) (n i:Int) (K:AE→List AV→Option AV) (fuel:Nat):
 loopN (aexec tb (orc []) Λ26 ⟨26,0,[(0,live26)]⟩ (loop1 F26).2 0) 26 0 live26 K (fuel+1) (vs26 a b r n i)=
 bif decide (i<n)then
  bif inB i a.length then
   bif inB i b.length then
    bif !eqD Term (tAt a i) (tAt b i)then K .ret (vs26 a b false n i)
    else loopN (aexec tb (orc []) Λ26 ⟨26,0,[(0,live26)]⟩ (loop1 F26).2 0) 26 0 live26 K fuel (vs26 a b r n (IntKind.i64.wrap (i+1)))
   else none
  else none
 else K (.exit 0) (vs26 a b r n i):=by kernel_rfl
theorem loop26:LoopP tb (orc []) Λ26 ⟨26,0,[(0,live26)]⟩ (loop1 F26):=by
 intro vs K out h
 have hcur:(loop1 F26).1=0:=by kernel_rfl
 rw[hcur]at h⊢
 unfold Λ26 at h
 split at h
 ·rename_i a b n _
  cases hc:(decide (n=a.length)&&decide (n≤9223372036854775807)&&decide (a.length=b.length))with
  |false=>rw[hc]at h;cases h
  |true=>
   rw[hc]at h
   simp only[cond_true]at h
   simp only[Bool.and_eq_true,decide_eq_true_eq]at hc
   obtain⟨⟨rfl,hmax⟩,hl⟩:=hc
   refine upLoop (α:=Unit) (n:=a.length) (F:=fun fuel _ i=>loopN (aexec tb (orc []) Λ26 ⟨26,0,[(0,live26)]⟩ (loop1 F26).2 0) 26 0 live26 K fuel (vs26 a b false a.length i))
    (G:=fun j _=>bif eqGo (a.drop j) (b.drop j)then K (.exit 0) (vs26 a b false a.length a.length)else K .ret (vs26 a b false a.length (eqAt (a.drop j) (b.drop j) j)))
    (fun fuel _=> ?_) (fun _ j hj=> ?_) a.length 0 () out (by omega) h
   ·have e:eqGo (a.drop a.length) (b.drop a.length)=true:=by simp [eqGo]
    simp only[step26,nlt_dec,cond_false,e,cond_true]
   ·have hj':j<b.length:=by omega
    cases h1:eqD Term (tAt a j) (tAt b j)with
    |false=>
     right;intro fuel
     simp only[step26,lt_dec hj,inB_lt hj,inB_lt hj',h1,cond_true,cond_false,tAt_drop hj,tAt_drop hj',eqGo,eqAt,Bool.not_false]
    |true=>
     left;refine⟨(),fun fuel=> ?_, ?_⟩
     ·simp only[step26,lt_dec hj,inB_lt hj,inB_lt hj',h1,cond_true,cond_false,Bool.not_true]
      rw[wrap64 (by omega) (by omega)];rfl
     ·simp only[tAt_drop hj,tAt_drop hj',eqGo,eqAt,h1,cond_true];rfl
 ·cases h
theorem r26 (a b:List Term.D):run (orc []) Λ26 [(0,live26)] F26 (encA [.v (.sl Term),.v (.sl Term)] (a,b)) []=
 bif (a.length:Int) != b.length then ob false else
 bif decide ((a.length:Int)=a.length)&&decide ((a.length:Int)≤9223372036854775807)&&decide (a.length=b.length)then
  bif eqGo a b then ob true else ob false
 else none:=by kernel_rfl
theorem eqTD {a b:Term.D}:eqD Term a b=true↔a=b:=by
 obtain⟨a1,a2,a3⟩:=a
 obtain⟨b1,b2,b3⟩:=b
 simp [eqD]
theorem eqGo_iff: ∀ {a b:List Term.D},a.length=b.length→(eqGo a b=true↔a=b)
 |[],[],_=>by simp [eqGo]
 |a::l,b::m,h=>by
  simp only[eqGo,List.cons.injEq]
  cases hq:eqD Term a b with
  |true=>simp only[cond_true,eqGo_iff (show l.length=m.length by simpa using h),eqTD.1 hq,true_and]
  |false=>
   have: ¬a=b:=fun e=>by rw[eqTD.2 e]at hq;cases hq
   simp [this]
 |[],_::_,h=>by simp at h
 |_::_,[],h=>by simp at h
def sameL (a b:List Term.D):Bool:=decide (a=b)
def s26:Sp:= .fn [.v (.sl Term),.v (.sl Term)] fun x=>(true,.one (.bool (sameL x.1 x.2)))
theorem g26:GoodS Tryz.prog N26 s26:=by
 refine good (.nil _) H26 rfl (by kernel_rfl) Λ26 [(0,live26)] (oneLoop (p0:=loop1 F26) (by kernel_rfl) loop26) [.v (.sl Term),.v (.sl Term)] (by decide) [] _ fun x r hw h=> ?_
 obtain⟨a,b⟩:=x
 cases h
 refine(r26 a b).trans ?_
 show _=ob (sameL a b)
 unfold sameL
 cases hl:(a.length:Int) != b.length with
 |true=>
  have hne:a≠b:=fun e=>by subst e;simp at hl
  rw[decide_eq_false hne];rfl
 |false=>
  have hl:a.length=b.length:=by simp at hl;omega
  rw[len_max hw.1.1,decide_eq_true hl]
  simp only[Bool.and_self,cond_true,cond_false]
  cases hq:eqGo a b with
  |true=>rw[decide_eq_true ((eqGo_iff hl).1 hq)];rfl
  |false=>rw[decide_eq_false (fun e=>by rw[(eqGo_iff hl).2 e]at hq;cases hq)];rfl
def hot (n:Nat):AV:= .one (.hot n none)
def strict (f0:Bool):(t:Ty)→List SV→Option (t.D×List SV)
 | .int k,.int k' n::r=>bif ikEq k k' then some (n,r)else none
 | .bool,.bool b::r=>some (b,r)
 | .str,.str s::r=>some (s,r)
 | .unit,l=>some ((),l)
 | .pair a b,l=>
   match strict f0 a l with
   |some (x,r)=>
    match strict f0 b r with
    |some (y,r')=>some ((x,y),r')
    |none=>none
   |none=>none
 | .sl t,.sl fr t' none xs::r=>
   bif boolBeq fr f0 then
    match Ty.castL t' t xs with
    |some ys=>some (ys,r)
    |none=>none
   else none
 |_,_=>none
theorem boolBeq_eq {a b:Bool} (h:boolBeq a b=true):a=b:=by cases a<;>cases b<;>first|rfl|cases h
theorem strict_eq {f0:Bool}: ∀ {t:Ty} {l:List SV} {x:t.D} {r:List SV},strict f0 t l=some (x,r)→l=enc t f0 x++r:=by
 intro t
 induction t with
 |int k=>
  intro l x r h
  match l,h with
  | .int k' n::l,h=>
    simp only[strict]at h
    cases hk:ikEq k k' with
    |false=>rw[hk]at h;cases h
    |true=>
     rw[hk]at h
     cases h
     obtain rfl:k=k':=by cases k<;>cases k'<;>first|rfl|cases hk
     rfl
 |bool=>intro l x r h;match l,h with| .bool b::l,h=>cases h;rfl
 |str=>intro l x r h;match l,h with| .str b::l,h=>cases h;rfl
 |unit=>intro l x r h;cases h;rfl
 |pair a b iha ihb=>
  intro l x r h
  simp only[strict]at h
  split at h
  ·rename_i x1 r1 h1
   split at h
   ·rename_i y1 r2 h2
    cases h
    rw[iha h1,ihb h2]
    simp [enc]
   ·cases h
  ·cases h
 |sl t _=>
  intro l x r h
  match l,h with
  | .sl fr t' none xs::l,h=>
    simp only[strict]at h
    cases hb:boolBeq fr f0 with
    |false=>rw[hb]at h;cases h
    |true=>
     rw[hb]at h
     simp only[cond_true]at h
     split at h
     ·rename_i ys hy
      cases h
      obtain⟨e,rfl⟩:=castL_eq' hy
      subst e
      rw[boolBeq_eq hb]
      rfl
     ·cases h
def strictA (f0:Bool) (t:Ty) (l:List SV):Option t.D:=
 match strict f0 t l with
 |some (x,[])=>some x
 |_=>none
theorem strictA_eq {f0:Bool} {t:Ty} {l:List SV} {x:t.D} (h:strictA f0 t l=some x):l=enc t f0 x:=by
 unfold strictA at h
 split at h
 ·rename_i y hy
  cases h
  rw[strict_eq hy,List.append_nil]
 ·cases h
abbrev live858:List (Nat×Dir):=[(0,.keep),(1,.keep),(4,.keep),(12,.keep),(13,.keep)]
def vs858 (a b:List U.D) (r:Bool) (n j:Int):List AV:=[.one (.sl false U none a),.one (.sl false U none b),.one (.bool r),.one (.int .i64 n),.one (.int .i64 j)]
noncomputable abbrev lo858 (Λ:Lam AV) (K:AE→List AV→Option AV) (fuel:Nat) (vs:List AV):Option AV:=loopN (aexec tb (orc []) Λ ⟨26,0,[(0,live858)]⟩ (loop1 F858).2 0) 26 0 live858 K fuel vs
def ne858 (a b:List U.D) (j:Int):Bool:= !eqD U (a.getD j.toNat (U:Ty).dflt) (b.getD j.toNat (U:Ty).dflt)
theorem step858 (a b:List U.D) (n j:Int) (Λ:Lam AV) (K:AE→List AV→Option AV) (fuel:Nat):lo858 Λ K (fuel+1) (vs858 a b false n j)=
 bif decide (j<n)then bif inB j a.length then bif inB j b.length then bif ne858 a b j then K .ret (vs858 a b false n j)else lo858 Λ K fuel (vs858 a b false n (IntKind.i64.wrap (j+1)))else none else none else K (.exit 0) (vs858 a b false n j):=by kernel_rfl
def Λ858:Lam AV:=fun _ vs K=>
 match vs with
 |[.one (.sl false (.int .u64) none a),.one (.sl false (.int .u64) none b),.one (.bool false),.one (.int .i64 n),.one (.int .i64 0)]=>
  bif decide (n=a.length)&&(decide ((a.length:Int)≤9223372036854775807)&&decide (b.length=a.length))then allK (fun j=>K .ret (vs858 a b false n j)) (K (.exit 0) (vs858 a b false n n)) (fun j=>ne858 a b j) a.length 0 else none
 |_=>none
theorem loop858:LoopP tb (orc []) Λ858 ⟨26,0,[(0,live858)]⟩ (loop1 F858):=by
 intro vs K out e
 have hcur:(loop1 F858).1=0:=by kernel_rfl
 rw[hcur]at e⊢
 unfold Λ858 at e
 split at e
 ·rename_i a b n
  cases hc:decide (n=a.length)&&(decide ((a.length:Int)≤9223372036854775807)&&decide (b.length=a.length))with
  |false=>rw[hc]at e;cases e
  |true=>
   rw[hc]at e
   simp only[cond_true]at e
   simp only[Bool.and_eq_true,decide_eq_true_eq]at hc
   obtain⟨rfl,hmax,hl⟩:=hc
   refine upLoop (α:=Unit) (n:=a.length) (F:=fun fuel _ j=>lo858 Λ858 K fuel (vs858 a b false a.length j))
    (G:=fun j _=>allK (fun j=>K .ret (vs858 a b false a.length j)) (K (.exit 0) (vs858 a b false a.length a.length)) (fun j=>ne858 a b j) (a.length-j) j)
    (fun fuel _=> ?_) (fun _ j hj=> ?_) a.length 0 () out (by omega) e
   ·simp only[step858,nlt_dec,cond_false,Nat.sub_self,allK]
   ·have hm:a.length-j=(a.length-(j+1))+1:=by omega
    have hstep: ∀fuel,lo858 Λ858 K (fuel+1) (vs858 a b false a.length j)=bif ne858 a b j then K .ret (vs858 a b false a.length j)else lo858 Λ858 K fuel (vs858 a b false a.length ((j+1:Nat):Int)):=by
     intro fuel
     rw[step858,lt_dec hj,inB_lt hj,inB_lt (show j<b.length by omega),wrap64 (n:=(j:Int)+1) (by omega) (by omega)]
     rfl
    cases hx:ne858 a b j with
    |true=>right;intro fuel;rw[hstep,hx];simp only[hm,allK,hx,cond_true]
    |false=>
     left;refine⟨(),fun fuel=> ?_, ?_⟩
     ·rw[hstep,hx];rfl
     ·simp only[hm,allK,hx,cond_false]
 ·cases e
theorem r858 (a b:List U.D):run (orc []) Λ858 [(0,live858)] F858 (encA [.v (.sl U),.v (.sl U)] (a,b)) []=
 bif (a.length:Int) != b.length then oB7 false else
 bif decide ((a.length:Int)=a.length)&&(decide ((a.length:Int)≤9223372036854775807)&&decide (b.length=a.length))then allK (fun _=>oB7 false) (oB7 true) (fun j=>ne858 a b j) a.length 0 else none:=by kernel_rfl
def same858 (a b:List U.D):Bool:=bif (a.length:Int) != b.length then false else !anyK (fun j=>ne858 a b j) a.length 0
def s858:Sp:= .fn [.v (.sl U),.v (.sl U)] fun x=>(true,.one (.bool (same858 x.1 x.2)))
theorem g858:GoodS Tryz.prog N858 s858:=by
 refine good (.nil _) H858 rfl (by kernel_rfl) Λ858 [(0,live858)] (oneLoop (p0:=loop1 F858) (by kernel_rfl) loop858) [.v (.sl U),.v (.sl U)] (by decide) [] _ fun x r hw e=> ?_
 obtain⟨a,b⟩:=x
 cases e
 refine(r858 a b).trans ?_
 unfold same858
 cases hl:(a.length:Int) != b.length with
 |true=>rfl
 |false=>
  have hl:a.length=b.length:=by simp at hl;omega
  have hmx:a.length≤9223372036854775807:=hw.1.1
  rw[decide_eq_true (show(a.length:Int)=a.length from rfl),decide_eq_true (show(a.length:Int)≤9223372036854775807 by omega),decide_eq_true hl.symm,allK_two]
  simp only[Bool.and_self,cond_true,cond_false]
  cases anyK (fun j=>ne858 a b j) a.length 0<;>rfl
theorem same858_self (a:List U.D):same858 a a=true:=by
 unfold same858
 have:anyK (fun j=>ne858 a a j) a.length 0=false:=anyK_false _ _ fun q _ hq=>by
  unfold ne858
  simp [eqD]
 rw[this]
 simp
abbrev live857:List (Nat×Dir):=[(0,.keep),(1,.keep),(4,.keep),(12,.keep),(13,.keep)]
def vs857 (a b:List Block.D) (r:Bool) (n j:Int):List AV:=[.one (.sl false Block none a),.one (.sl false Block none b),.one (.bool r),.one (.int .i64 n),.one (.int .i64 j)]
noncomputable abbrev lo857 (Λ:Lam AV) (K:AE→List AV→Option AV) (fuel:Nat) (vs:List AV):Option AV:=loopN (aexec tb (orc []) Λ ⟨26,0,[(0,live857)]⟩ (loop1 F857).2 0) 26 0 live857 K fuel vs
def ne857 (a b:List Block.D) (j:Int):Bool:= !eqD Block (a.getD j.toNat (Block:Ty).dflt) (b.getD j.toNat (Block:Ty).dflt)
theorem step857 (a b:List Block.D) (n j:Int) (Λ:Lam AV) (K:AE→List AV→Option AV) (fuel:Nat):lo857 Λ K (fuel+1) (vs857 a b false n j)=
 bif decide (j<n)then bif inB j a.length then bif inB j b.length then bif ne857 a b j then K .ret (vs857 a b false n j)else lo857 Λ K fuel (vs857 a b false n (IntKind.i64.wrap (j+1)))else none else none else K (.exit 0) (vs857 a b false n j):=by kernel_rfl
def Λ857:Lam AV:=fun _ vs K=>
 match vs with
 |[.one (.sl false (.pair (.int .u64) (.int .u64)) none a),.one (.sl false (.pair (.int .u64) (.int .u64)) none b),.one (.bool false),.one (.int .i64 n),.one (.int .i64 0)]=>
  bif decide (n=a.length)&&(decide ((a.length:Int)≤9223372036854775807)&&decide (b.length=a.length))then allK (fun j=>K .ret (vs857 a b false n j)) (K (.exit 0) (vs857 a b false n n)) (fun j=>ne857 a b j) a.length 0 else none
 |_=>none
theorem loop857:LoopP tb (orc []) Λ857 ⟨26,0,[(0,live857)]⟩ (loop1 F857):=by
 intro vs K out e
 have hcur:(loop1 F857).1=0:=by kernel_rfl
 rw[hcur]at e⊢
 unfold Λ857 at e
 split at e
 ·rename_i a b n
  cases hc:decide (n=a.length)&&(decide ((a.length:Int)≤9223372036854775807)&&decide (b.length=a.length))with
  |false=>rw[hc]at e;cases e
  |true=>
   rw[hc]at e
   simp only[cond_true]at e
   simp only[Bool.and_eq_true,decide_eq_true_eq]at hc
   obtain⟨rfl,hmax,hl⟩:=hc
   refine upLoop (α:=Unit) (n:=a.length) (F:=fun fuel _ j=>lo857 Λ857 K fuel (vs857 a b false a.length j))
    (G:=fun j _=>allK (fun j=>K .ret (vs857 a b false a.length j)) (K (.exit 0) (vs857 a b false a.length a.length)) (fun j=>ne857 a b j) (a.length-j) j)
    (fun fuel _=> ?_) (fun _ j hj=> ?_) a.length 0 () out (by omega) e
   ·simp only[step857,nlt_dec,cond_false,Nat.sub_self,allK]
   ·have hm:a.length-j=(a.length-(j+1))+1:=by omega
    have hstep: ∀fuel,lo857 Λ857 K (fuel+1) (vs857 a b false a.length j)=bif ne857 a b j then K .ret (vs857 a b false a.length j)else lo857 Λ857 K fuel (vs857 a b false a.length ((j+1:Nat):Int)):=by
     intro fuel
     rw[step857,lt_dec hj,inB_lt hj,inB_lt (show j<b.length by omega),wrap64 (n:=(j:Int)+1) (by omega) (by omega)]
     rfl
    cases hx:ne857 a b j with
    |true=>right;intro fuel;rw[hstep,hx];simp only[hm,allK,hx,cond_true]
    |false=>
     left;refine⟨(),fun fuel=> ?_, ?_⟩
     ·rw[hstep,hx];rfl
     ·simp only[hm,allK,hx,cond_false]
 ·cases e
theorem r857 (a b:List Block.D):run (orc []) Λ857 [(0,live857)] F857 (encA [.v (.sl Block),.v (.sl Block)] (a,b)) []=
 bif (a.length:Int) != b.length then oB7 false else
 bif decide ((a.length:Int)=a.length)&&(decide ((a.length:Int)≤9223372036854775807)&&decide (b.length=a.length))then allK (fun _=>oB7 false) (oB7 true) (fun j=>ne857 a b j) a.length 0 else none:=by kernel_rfl
def same857 (a b:List Block.D):Bool:=bif (a.length:Int) != b.length then false else !anyK (fun j=>ne857 a b j) a.length 0
def s857:Sp:= .fn [.v (.sl Block),.v (.sl Block)] fun x=>(true,.one (.bool (same857 x.1 x.2)))
theorem g857:GoodS Tryz.prog N857 s857:=by
 refine good (.nil _) H857 rfl (by kernel_rfl) Λ857 [(0,live857)] (oneLoop (p0:=loop1 F857) (by kernel_rfl) loop857) [.v (.sl Block),.v (.sl Block)] (by decide) [] _ fun x r hw e=> ?_
 obtain⟨a,b⟩:=x
 cases e
 refine(r857 a b).trans ?_
 unfold same857
 cases hl:(a.length:Int) != b.length with
 |true=>rfl
 |false=>
  have hl:a.length=b.length:=by simp at hl;omega
  have hmx:a.length≤9223372036854775807:=hw.1.1
  rw[decide_eq_true (show(a.length:Int)=a.length from rfl),decide_eq_true (show(a.length:Int)≤9223372036854775807 by omega),decide_eq_true hl.symm,allK_two]
  simp only[Bool.and_self,cond_true,cond_false]
  cases anyK (fun j=>ne857 a b j) a.length 0<;>rfl
theorem same857_self (a:List Block.D):same857 a a=true:=by
 unfold same857
 have:anyK (fun j=>ne857 a a j) a.length 0=false:=anyK_false _ _ fun q _ hq=>by
  unfold ne857
  simp [eqD]
 rw[this]
 simp
def sameR (a b:RollT.D):Bool:=bif bif bif a.1==b.1 then a.2.1 ==b.2.1 else false then same858 a.2.2.1 b.2.2.1 else false then a.2.2.2 ==b.2.2.2 else false
theorem r822 (a b:RollT.D):run (orc [(N858,s858)]) noL [] F822 (encA [.v RollT,.v RollT] (a,b)) []=some (.one (.bool (sameR a b))):=by kernel_rfl
def s822:Sp:= .fn [.v RollT,.v RollT] fun x=>(true,.one (.bool (sameR x.1 x.2)))
theorem g822:GoodS Tryz.prog N822 s822:=by
 refine good (.cons g858 (.nil _)) H822 rfl (by kernel_rfl) noL [] (noLoops (by kernel_rfl)) [.v RollT,.v RollT] (by decide) [] _ fun x r hw e=> ?_
 cases e
 exact r822 x.1 x.2
theorem sameR_self (a:RollT.D):sameR a a=true:=by
 unfold sameR
 simp [same858_self]
def sameC (a b:CenT.D):Bool:=
 bif bif bif bif bif bif bif bif cH a==cH b then cK a==cK b else false then cY a==cY b else false then valEq (cM a) (cM b)else false then sameR (cR a) (cR b)else false then cE a==cE b else false then same857 (cD a) (cD b)else false then cA a==cA b else false then sameL (cL a) (cL b)else false
theorem r820 (a b:CenT.D):run (orc [(N822,s822),(N857,s857),(N26,s26)]) noL [] F820 (encA [.v CenT,.v CenT] (a,b)) []=some (.one (.bool (sameC a b))):=by kernel_rfl
def s820:Sp:= .fn [.v CenT,.v CenT] fun x=>(true,.one (.bool (sameC x.1 x.2)))
theorem g820:GoodS Tryz.prog N820 s820:=by
 refine good (.cons g822 (.cons g857 (.cons g26 (.nil _)))) H820 rfl (by kernel_rfl) noL [] (noLoops (by kernel_rfl)) [.v CenT,.v CenT] (by decide) [] _ fun x r hw e=> ?_
 cases e
 exact r820 x.1 x.2
theorem sameC_self (a:CenT.D):sameC a a=true:=by
 unfold sameC
 rw[valEq_iff.2 rfl,sameR_self,same857_self,show sameL (cL a) (cL a)=true from decide_eq_true rfl]
 simp
abbrev live819:List (Nat×Dir):=[(2,.keep),(3,.keep),(4,.keep),(43,.keep),(44,.keep)]
def vs819 (a b:HeadT.D) (r:Bool) (n j:Int):List AV:=[.own (enc HeadT false a),.own (enc HeadT false b),.one (.bool r),.one (.int .i64 n),.one (.int .i64 j)]
noncomputable abbrev lo819 (Λ:Lam AV) (K:AE→List AV→Option AV) (fuel:Nat) (vs:List AV):Option AV:=loopN (aexec tb (orc []) Λ ⟨59,0,[(0,live819)]⟩ (loop1 F819).2 0) 59 0 live819 K fuel vs
def partEq (p q:Part.D):Bool:=(p.1.1 ==q.1.1)&&((p.1.2 ==q.1.2)&&valEq p.2 q.2)
def ne819 (a b:HeadT.D) (j:Int):Bool:= !partEq (pAt (hL a) j) (pAt (hL b) j)
theorem step819 (a b:HeadT.D) (n j:Int) (Λ:Lam AV) (K:AE→List AV→Option AV) (fuel:Nat):lo819 Λ K (fuel+1) (vs819 a b false n j)=
 bif decide (j<n)then bif inB j (hL a).length then bif inB j (hL b).length then bif ne819 a b j then K .ret (vs819 a b false n j)else lo819 Λ K fuel (vs819 a b false n (IntKind.i64.wrap (j+1)))else none else none else K (.exit 0) (vs819 a b false n j):=by kernel_rfl
def Λ819:Lam AV:=fun _ vs K=>
 match vs with
 |[.own ca,.own cb,.one (.bool false),.one (.int .i64 n),.one (.int .i64 0)]=>
  (match strictA false HeadT ca,strictA false HeadT cb with
  |some a,some b=>
   bif decide (n=(hL a).length)&&(decide (((hL a).length:Int)≤9223372036854775807)&&decide ((hL b).length=(hL a).length))then allK (fun j=>K .ret (vs819 a b false n j)) (K (.exit 0) (vs819 a b false n n)) (fun j=>ne819 a b j) (hL a).length 0 else none
  |_,_=>none)
 |_=>none
theorem loop819:LoopP tb (orc []) Λ819 ⟨59,0,[(0,live819)]⟩ (loop1 F819):=by
 intro vs K out e
 have hcur:(loop1 F819).1=0:=by kernel_rfl
 rw[hcur]at e⊢
 unfold Λ819 at e
 split at e
 ·rename_i ca cb n
  split at e
  ·rename_i a b h1 h2
   rw[strictA_eq h1,strictA_eq h2]
   cases hc:decide (n=(hL a).length)&&(decide (((hL a).length:Int)≤9223372036854775807)&&decide ((hL b).length=(hL a).length))with
   |false=>rw[hc]at e;cases e
   |true=>
    rw[hc]at e
    simp only[cond_true]at e
    simp only[Bool.and_eq_true,decide_eq_true_eq]at hc
    obtain⟨rfl,hmax,hl⟩:=hc
    refine upLoop (α:=Unit) (n:=(hL a).length) (F:=fun fuel _ j=>lo819 Λ819 K fuel (vs819 a b false (hL a).length j))
     (G:=fun j _=>allK (fun j=>K .ret (vs819 a b false (hL a).length j)) (K (.exit 0) (vs819 a b false (hL a).length (hL a).length)) (fun j=>ne819 a b j) ((hL a).length-j) j)
     (fun fuel _=> ?_) (fun _ j hj=> ?_) (hL a).length 0 () out (by omega) e
    ·simp only[step819,nlt_dec,cond_false,Nat.sub_self,allK]
    ·have hm:(hL a).length-j=((hL a).length-(j+1))+1:=by omega
     have hstep: ∀fuel,lo819 Λ819 K (fuel+1) (vs819 a b false (hL a).length j)=bif ne819 a b j then K .ret (vs819 a b false (hL a).length j)else lo819 Λ819 K fuel (vs819 a b false (hL a).length ((j+1:Nat):Int)):=by
      intro fuel
      rw[step819,lt_dec hj,inB_lt hj,inB_lt (show j<(hL b).length by omega),wrap64 (n:=(j:Int)+1) (by omega) (by omega)]
      rfl
     cases hx:ne819 a b j with
     |true=>right;intro fuel;rw[hstep,hx];simp only[hm,allK,hx,cond_true]
     |false=>
      left;refine⟨(),fun fuel=> ?_, ?_⟩
      ·rw[hstep,hx];rfl
      ·simp only[hm,allK,hx,cond_false]
  ·cases e
 ·cases e
def headB (a b:HeadT.D):Bool:=bif bif bif bif a.1 != b.1 then true else a.2.1 != b.2.1 then true else a.2.2.1 != b.2.2.1 then true else !valEq (hP a) (hP b)then true else((hL a).length:Int) != (hL b).length
theorem r819 (a b:HeadT.D):run (orc []) Λ819 [(0,live819)] F819 (encA [.v HeadT,.v HeadT] (a,b)) []=
 bif headB a b then oB7 false else
 bif decide (((hL a).length:Int)=(hL a).length)&&(decide (((hL a).length:Int)≤9223372036854775807)&&decide ((hL b).length=(hL a).length))then allK (fun _=>oB7 false) (oB7 true) (fun j=>ne819 a b j) (hL a).length 0 else none:=by kernel_rfl
def sameH (a b:HeadT.D):Bool:=bif headB a b then false else !anyK (fun j=>ne819 a b j) (hL a).length 0
def s819:Sp:= .fn [.v HeadT,.v HeadT] fun x=>(true,.one (.bool (sameH x.1 x.2)))
theorem g819:GoodS Tryz.prog N819 s819:=by
 refine good (.nil _) H819 rfl (by kernel_rfl) Λ819 [(0,live819)] (oneLoop (p0:=loop1 F819) (by kernel_rfl) loop819) [.v HeadT,.v HeadT] (by decide) [] _ fun x r hw e=> ?_
 obtain⟨a,b⟩:=x
 cases e
 refine(r819 a b).trans ?_
 unfold sameH
 cases hl:headB a b with
 |true=>rfl
 |false=>
  have hl:(hL a).length=(hL b).length:=by
   unfold headB at hl
   cases h1:(bif bif bif a.1 != b.1 then true else a.2.1 != b.2.1 then true else a.2.2.1 != b.2.2.1 then true else !valEq (hP a) (hP b))with
   |true=>rw[h1]at hl;cases hl
   |false=>rw[h1]at hl;simp at hl;omega
  have hmx:(hL a).length≤9223372036854775807:=hw.1.2.2.2.1.1
  rw[decide_eq_true (show((hL a).length:Int)=(hL a).length from rfl),decide_eq_true (show((hL a).length:Int)≤9223372036854775807 by omega),decide_eq_true hl.symm,allK_two]
  simp only[Bool.and_self,cond_true,cond_false]
  cases anyK (fun j=>ne819 a b j) (hL a).length 0<;>rfl
theorem sameH_self (a:HeadT.D):sameH a a=true:=by
 unfold sameH headB
 have:anyK (fun j=>ne819 a a j) (hL a).length 0=false:=anyK_false _ _ fun q _ hq=>by
  unfold ne819 partEq
  rw[valEq_iff.2 rfl]
  simp
 rw[this,valEq_iff.2 rfl]
 simp
def Γ804:Orc:=orc [(N814,s814),(N815,s815),(N821,s821),(N817,s817),(N822,s822),(N819,s819),(N820,s820)]
@[reducible] def Z4:Type:=HeadT.D×Value.D×CenT.D×Int
def sym4 (z w:Z4):Bool:=bif bif bif ((hL z.1).length:Int)==(hL w.1).length then z.1.2.2.1 ==w.1.2.2.1 else false then cA z.2.2.1 ==cA w.2.2.1 else false then sameR (cR z.2.2.1) (cR w.2.2.1)else false
def oct4 (z w:Z4):Bool:=bif bif sameH z.1 w.1 then valEq z.2.1 w.2.1 else false then sameC z.2.2.1 w.2.2.1 else false
def fin4 (c:CenT.D) (z w:Z4):Option AV:=
 bif z.2.2.2 != w.2.2.2 then oB7 false else bif z.2.2.2 != 0 then oB7 (bif ((hL z.1).length:Int)==0 then((hL w.1).length:Int)==0 else false)else bif cY c then oB7 (sym4 z w)else oB7 (oct4 z w)
def law4c (c:CenT.D) (b:Block.D) (y:List Entry.D×CenT.D×Int):Option AV:=
 bif y.2.2 != 0 then oB7 true else bif small24 (cL y.2.1).length then fin4 c (sendC c b) (sendC y.2.1 b)else none
theorem r804 (c:CenT.D) (i:Int) (b:Block.D):run Γ804 noL [] F804 (encA A811 (c,i,b)) []=
 bif !fewB c then oB7 true else bif small24 (cL c).length then bif small24 (cL c).length then law4c c b (provC c i)else none else none:=by kernel_rfl
section
variable {b:Block.D} {t0:Nat} {l:List Term.D} {m:Value.D}
theorem mkV_oct {h k:Int} {s:Subset.D} (hd:Den false b t0 l [] m) (hl:l.length<65536) (he:(mkV l h k m s).2.2 =0):(mkV l h k m s).2.1 =l:=by
 unfold mkV at he⊢
 cases hs:s.2==0 with
 |true=>
  rw[hs]at he
  obtain⟨e1,e2⟩:=keyV_err hd he
  obtain⟨v,e,_⟩:=key_oct hd hl (noKey_err he) e1 e2
  simp only[cond_true]
  rw[e]
 |false=>
  rw[hs]at he
  obtain⟨e0,e1,e2⟩:=labelV_err hd he
  obtain⟨v,a1,a3⟩:=walk_oct (labP h s) hd hl (labP_02 h s)
  simp only[cond_false]
  unfold labelV
  rw[e0,hd.start,labelW_ok e1 e2,cond_false,a1]
  rfl
theorem mkR_oct {h k:Int} {ps:List Subset.D} (hd:Den false b t0 l [] m) (hl:l.length<65536): ∀(n j:Nat) (es:List Entry.D) (e:Int),(mkR h k m ps n j l es e).1=false→(mkR h k m ps n j l es e).2.1 =l:=by
 intro n
 induction n with
 |zero=>intro j es e _;rfl
 |succ n ih=>
  intro j es e hf
  rw[mkR]at hf⊢
  cases hx:(mkV l h k m (sAt ps j)).2.2 != 0 with
  |true=>rw[hx]at hf;cases hf
  |false=>
   rw[hx,cond_false]at hf
   rw[cond_false]
   have h1:=mkV_oct (h:=h) (k:=k) (s:=sAt ps j) hd hl (by simpa using hx)
   rw[h1]at hf⊢
   exact ih _ _ _ hf
theorem made_oct {h k i:Int} (hd:Den false b t0 l [] m) (hl:l.length<65536) (hz:(makeV l h k m i).2.2 =0):(makeV l h k m i).2.1 =l:=by
 have hw0:=walk_nil hd
 unfold makeV at hz⊢
 cases hn:noMk l h k m i with
 |true=>rw[hn]at hz;exact absurd (show(1:Int)=0 from hz) (by decide)
 |false=>
  rw[hn]at hz
  cases hx:(mkX l h k m i).1 with
  |true=>rw[hx]at hz;exact absurd hz (mkR_err _ _ _ _ _ hx)
  |false=>
   simp only[cond_false]
   unfold mkX at hx⊢
   rw[hw0]at hx⊢
   exact mkR_oct hd hl _ _ _ _ hx
end
theorem ChkOk.zero {c:CenT.D} (h:ChkOk c):chkC c=0:=by
 have hb:chkB c=false:=by
  unfold chkB
  rw[h.may,h.walk,h.kind,h.roll,h.high]
  simp
 unfold chkC
 have h0:=h.ep0
 have h1:=h.ep1
 have h2:=h.draws
 have h3:=h.at0
 have h4:=h.at1
 rw[hb,decide_eq_false (show ¬cE c<0 by omega),decide_eq_false (show ¬cE c>lastI (cY c) by omega),decide_eq_false (show ¬((cD c).length:Int)>4096 by omega),decide_eq_false (show ¬cA c<1 by omega),decide_eq_false (show ¬cA c>((cD c).length:Int) by omega)]
 rfl
theorem ChkOk.more {c:CenT.D} (h:ChkOk c) {l:List Term.D} (hs:startE l (cM c)=0) (hw:(walkV l (cM c) []).2.2 =0):ChkOk (setL c l):=
 ⟨h.may,hs,hw,h.kind,h.roll,h.high,h.ep0,h.ep1,h.draws,h.at0,h.at1⟩
theorem sendC_none {c:CenT.D} {b:Block.D} (h:ChkOk c) (ha:cA c=((cD c).length:Int)) (hp:(cE c==lastI (cY c))=false):sendC c b=(zeroH,zeroV,zeroC,10):=by
 unfold sendC
 have hd:(sendI c b).1.2.2 =10:=by
  unfold sendI drawV
  have h1:(cA (setE c)==((cD (setE c)).length:Int))=true:=beq_iff_eq.2 ha
  rw[h1];rfl
 rw[h.zero,hp,hd];rfl
theorem sendC_over {c:CenT.D} {b:Block.D} (h:ChkOk c) (hp:(cE c==lastI (cY c))=true):sendC c b=(zeroH,zeroV,zeroC,9):=by
 unfold sendC
 rw[h.zero,hp];rfl
theorem sendC_ok {c c':CenT.D} {b:Block.D} {x:HeadT.D} {key:Value.D} (h:ChkOk c) (hp:(cE c==lastI (cY c))=false) (hs:sendI c b=((x,key,0),c')):sendC c b=(x,key,c',0):=by
 unfold sendC
 rw[h.zero,hp,hs];rfl
theorem law804 {c:CenT.D} {i:Int} {b:Block.D} (hw:WF CenT c) (hi:IntKind.u64.has i) (hb:WF Block b):
 (bif !fewB c then oB7 true else bif small24 (cL c).length then bif small24 (cL c).length then law4c c b (provC c i)else none else none)=oB7 true:=by
 cases hf:fewB c with
 |false=>rfl
 |true=>
 obtain⟨f1,f2,f3⟩:=few_ok hf
 have hwu: ∀y∈rL (cR c),IntKind.u64.has y:=hw.2.2.2.2.1.2.2.1.2
 have hwd: ∀y∈cD c,WF Block y:=hw.2.2.2.2.2.2.1.2
 rw[small_of (show(cL c).length≤65536 by omega)]
 simp only[Bool.not_true,cond_false,cond_true]
 unfold provC
 cases h1:chkC c != 0 with
 |true=>unfold law4c;simp only[cond_true];rw[h1];rfl
 |false=>
 have hk:=chk_ok (c:=c) (by simpa using h1)
 simp only[cond_false]
 cases h2:(mkC c i).2.2 != 0 with
 |true=>unfold law4c;simp only[cond_true];rw[h2];rfl
 |false=>
 have hz:(makeV (cL c) (cH c) (cK c) (cM c) i).2.2 =0:=by
  have:(mkC c i).2.2 =0:=by simpa using h2
  exact this
 obtain⟨h4,hh1⟩:=hk.h4 hwu f1
 obtain⟨sym,bm,tm,dm⟩:=den_ofC hk.start
 obtain rfl:sym=cY c:=dm.facts.2.2.2.1.symm.trans hk.kind
 obtain⟨r0,e1,e2,e3,hp,hn,hm⟩:=made_run dm (by omega) (by omega) hz
 have hmk:(mkC c i).2.1 =cL c++r0:=e1
 simp only[cond_false]
 rw[hmk]
 unfold law4c
 simp only[bne_self_eq_false,cond_false]
 have hda:=dm.mono e3
 have hka:ChkOk (setL c (cL c++r0)):=hk.more hda.startE (by rw[walk_nil hda])
 have hal:(cL c++r0).length≤1470:=by rw[List.length_append];omega
 rw[show small24 (cL (setL c (cL c++r0))).length=true from small_of (show(cL c++r0).length≤65536 by omega)]
 simp only[cond_true]
 have hbad: ∀e:Int,e≠0→fin4 c (zeroH,zeroV,zeroC,e) (zeroH,zeroV,zeroC,e)=oB7 true:=fun e he=>by
  unfold fin4
  simp only[bne_self_eq_false,cond_false]
  rw[show(e != 0)=true by simpa using he];rfl
 cases g2:cE c==lastI (cY c)with
 |true=>rw[sendC_over hk g2,sendC_over hka g2];exact hbad 9 (by decide)
 |false=>
 rcases Classical.em (cA c=((cD c).length:Int))with g3|g3
 ·rw[sendC_none hk g3 g2,sendC_none hka g3 g2];exact hbad 10 (by decide)
 ·obtain⟨c',x,key,r,s1,sc⟩:=send_law (b:=b) hk hwu hwd hb (by omega) f3 (by omega) (by simpa using g2) g3
  have g2':cE c≠lastI (cY c):=by simpa using g2
  obtain⟨c2,x2,key2,r2,s2,sc2⟩:=send_law (c:=setL c (cL c++r0)) (b:=b) hka hwu hwd hb (by show cH c≤8;omega) f3 (by show(cL c++r0).length≤1900;omega) g2' g3
  rw[sendC_ok hk g2 s1,sendC_ok hka g2 s2]
  unfold fin4
  simp only[bne_self_eq_false,cond_false]
  cases hy:cY c with
  |true=>
   simp only[cond_true]
   obtain⟨_,_,_,n1⟩:=sc.sent
   obtain⟨_,_,_,n2⟩:=sc2.sent
   have l1:(hL x).length=(coverI (cH c) (cK c) (rL (cR c))).1.length :=n1.1
   have l2:(hL x2).length=(coverI (cH c) (cK c) (rL (cR c))).1.length :=n2.1
   have q1:=sc.hdr.2.2
   have q2:x2.2.2.1 =cE c+1:=sc2.hdr.2.2
   have w1:cA c'=cA c+1:=by rw[sc.same]
   have w2:cA c2=cA c+1:=by rw[sc2.same];rfl
   have v1:cR c'=cR c:=by rw[sc.same]
   have v2:cR c2=cR c:=by rw[sc2.same];rfl
   unfold sym4
   show oB7 (bif bif bif ((hL x).length:Int)==(hL x2).length then x.2.2.1 ==x2.2.2.1 else false then cA c'==cA c2 else false then sameR (cR c') (cR c2)else false)=_
   rw[l1,l2,q1,q2,w1,w2,v1,v2,sameR_self]
   simp
  |false=>
   have hd0:Den false bm tm (cL c) [] (cM c):=hy▸dm
   have h0:=made_oct hd0 (by omega) hz
   have hr0:r0=[]:=by
    rw[h0]at e1
    have:=congrArg List.length e1
    simp at this
    exact this
   subst hr0
   rw[List.append_nil]at s2
   have hcc:setL c (cL c)=c:=rfl
   rw[hcc,s1]at s2
   obtain⟨⟨rfl,rfl,_⟩,rfl⟩:=(Prod.mk.injEq _ _ _ _▸s2:_∧_)
   unfold oct4
   simp only[cond_false]
   rw[sameH_self,valEq_iff.2 rfl,sameC_self];rfl
theorem good804 (x:ADen A811):Good Tryz.prog N804 (encA A811 x) (.one (.bool true)):=by
 have g:GoodS Tryz.prog N804 (.fn A811 fun _=>(true,.one (.bool true))):=by
  refine good (.cons g814 (.cons g815 (.cons g821 (.cons g817 (.cons g822 (.cons g819 (.cons g820 (.nil _)))))))) H804 rfl (by kernel_rfl) noL [] (noLoops (by kernel_rfl)) A811 (by decide) [] _ fun x r hw e=> ?_
  obtain⟨c,i,b⟩:=x
  cases e
  refine(r804 c i b).trans ?_
  exact law804 hw.1 hw.2.1 hw.2.2
 exact g.2.1 _ _ (by kernel_rfl)
end Go.AM.Seat
