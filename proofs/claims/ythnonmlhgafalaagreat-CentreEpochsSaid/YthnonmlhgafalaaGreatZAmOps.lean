import Derived.Test.YthnonmlhgafalaaGreatZAmRel
import Derived.Laws.StructEq
set_option linter.unusedVariables false
set_option linter.unusedSimpArgs false
namespace Go.AM
def ArrRel (w:World) (okf:Nat→Prop) (l:Loc) (t:Ty) (xs:List t.D):Prop:=
 l.len=xs.length∧l.len≤l.cap∧l.cap≤9223372036854775807∧
  ((l.b=none∧xs=[]∧l.cap=0)∨
    ∃b c E,l.b=some b∧w.heap[b]? =some (.cells c E (0,0))∧l.cap*t.size≤c.size∧
     ∀j (h:j<xs.length),∃cs,TRel w okf t xs[j] cs∧ ∀q (hq:q<cs.length),c[j*t.size+q]? =some cs[q])
def FreshB (mine:Cx) (w0:World) (st:St) (w:World) (μ:Locs) (ok:OK) (b:Nat):Prop:=
 b<w.heap.size∧(w0.heap.size≤b∨mine.mine b)∧ ¬ok false b∧ ∀i,(st.ow i).isOwner=true→(μ i).b≠some b
def NewRel (mine:Cx) (w0:World) (st:St) (w:World) (μ:Locs) (ok:OK):AV→Value→Prop
 | .own cs,x=> ∃b c E,x= .pointer (some ⟨b,0,none⟩)∧w.heap[b]? =some (.cells c E (0,0))∧All2 (SVRel w μ ok) cs c.toList∧FreshB mine w0 st w μ ok b
 | .arr fr t xs,x=> ∃l,x=slv l none∧ArrRel w (ok fr) l t xs∧ ∀b,l.b=some b→FreshB mine w0 st w μ ok b
 | .mapO fr kt vt es,x=> ∃b,x= .map (some b)∧MapRel w (ok fr) kt vt es b∧FreshB mine w0 st w μ ok b
 |v,x=>AVRel w μ ok v x
section
variable {mine:Cx} {w0:World} {st:St} {w:World} {μ:Locs} {ok:OK}
theorem NewRel.of_av {v:AV} {x:Value} (ho:v.isOwner=false) (h:AVRel w μ ok v x):NewRel mine w0 st w μ ok v x:=by
 cases v<;>first|exact h|cases ho
theorem Facts.putNew {tm:Array Value} (F:Facts mine w0 st tm w μ ok) (d:Nat) {v:AV} {x:Value} (h:NewRel mine w0 st w μ ok v x):
 ∃μ',Facts mine w0 (st.put d v) (tm.setIfInBounds d x) w μ' ok:=by
 cases hg:(st.at d).isGho with
 |true=>
  have:st.put d v=st:=by unfold St.put;rw[hg];rfl
  rw[this];exact⟨μ,F.putG hg⟩
 |false=>
 by_cases hd:d<st.length
 case neg=>
  cases ho:v.isOwner with
  |false=>
   have h':AVRel w μ ok v x:=by cases v<;>first|exact h|cases ho
   exact⟨μ,F.putV d h' ho⟩
  |true=>
   have F1:=(F.putV d (v:= .one .junk) (x:=x) trivial rfl).forget d
   have e1:st.put d (.one .junk)=st:=by
    rw[St.put_eq (selfB_junk st d)]
    rw[hg,St.at_out _ _ (by omega)]
    exact List.set_eq_of_length_le (by omega)
   have e2:st.put d v=st.kill d:=by
    rw[St.put_eq (selfB_owner ho)]
    rw[hg,ho,Bool.or_true]
    exact List.set_eq_of_length_le (by rw[St.length_kill];omega)
   rw[e1]at F1
   rw[e2];exact⟨μ,F1⟩
 case pos=>
 cases v with
 |own cs=>
  obtain⟨b,c,E,rfl,h1,h2,g1,g2,g3,g4⟩:=h
  refine⟨_,F.putO d ⟨some b,0,0⟩ rfl hg hd ⟨b,by rw[upd_self],rfl⟩ ⟨b,c,E,by rw[upd_self],h1, ?_⟩ ?_⟩
  ·refine(h2.kill d).imp_mem fun y v hy hyv=>hyv.mono (fun _ _ _=>rfl) (fun _ _ h=>h) fun s hs=>upd_ne μ _ fun e=> ?_
   obtain⟨z,_,rfl⟩:=List.mem_map.1 hy
   rw[e,SV.kill_self]at hs;cases hs
  ·intro b' hb'
   cases hb'
   exact⟨g1,g2,g3,fun i _=>g4 i⟩
 |arr fr t xs=>
  obtain⟨l,rfl,h1,h2⟩:=h
  refine⟨_,F.putO d l rfl hg hd ?_ ?_ fun b hb=>⟨(h2 b hb).1,(h2 b hb).2.1,(h2 b hb).2.2.1,fun i _=>(h2 b hb).2.2.2 i⟩⟩
  ·show slv l none=slv (upd μ d l d) none
   rw[upd_self]
  ·show OwnRel w (upd μ d l) ok d (.arr fr t xs)
   unfold OwnRel
   rw[upd_self];exact h1
 |mapO fr kt vt es=>
  obtain⟨b,rfl,h1,g1,g2,g3,g4⟩:=h
  refine⟨_,F.putO d ⟨some b,0,0⟩ rfl hg hd ⟨b,by rw[upd_self],rfl⟩ ⟨b,by rw[upd_self],h1⟩ ?_⟩
  intro b' hb'
  cases hb'
  exact⟨g1,g2,g3,fun i _=>g4 i⟩
 |one y=>exact⟨μ,F.putV d h rfl⟩
 |agg cs=>exact⟨μ,F.putV d h rfl⟩
 |tup l=>exact⟨μ,F.putV d h rfl⟩
 |gho o=>exact h.elim
def none1 (_:Nat):Prop:=False
structure Grow (w:World) (ok:OK) (w1:World) (ok1:OK) (v:AV) (x:Value):Prop where
 fr:Fr none1 w w1
 up: ∀f b,ok f b→ok1 f b
 down: ∀f b,ok1 f b→ok f b∨w.heap.size≤b
 new:v.isOwner=true→ ∀b,((x= .pointer (some ⟨b,0,none⟩))∨(∃n c,x= .slice (some ⟨b,0,none⟩) n c)∨x= .map (some b))→w.heap.size≤b
theorem Grow.refl {v:AV} {x:Value} (ho:v.isOwner=false):Grow w ok w ok v x:=
 ⟨⟨rfl,rfl,rfl,Nat.le_refl _,fun _ _ _=>rfl⟩,fun _ _ h=>h,fun _ _ h=> .inl h,fun h=>by rw[ho]at h;cases h⟩
theorem Fr.alloc {m:Nat→Prop} (h:Fr m w0 w) (o:Obj):Fr m w0 (w.alloc o):=
 ⟨h.os,h.tape,h.output,by have:=h.size;show _≤(w.heap.push o).size;rw[Array.size_push];omega,fun k hk hm=>by
   have:=h.size
   rw[RowKit.Below.heap_alloc _ _ _ (by omega)];exact h.block k hk hm⟩
theorem heap_at_new (w:World) (o:Obj):(w.alloc o).heap[w.heap.size]? =some o:=by
 show(w.heap.push o)[w.heap.size]? =_
 simp
theorem alloc_size (w:World) (o:Obj):(w.alloc o).heap.size=w.heap.size+1:=by show(w.heap.push o).size=_;simp
theorem Facts.alloc {tm:Array Value} (F:Facts mine w0 st tm w μ ok) (o:Obj):Facts mine w0 st tm (w.alloc o) μ ok:=
 F.step (fun b hb=>RowKit.Below.heap_alloc _ _ _ (F.okB b hb)) (fun i b h1 h2=>RowKit.Below.heap_alloc _ _ _ (F.ownB i b h1 h2).1) (by rw[alloc_size];omega) (fun _ _ h=>h)
   (fun b hb=>by have:=F.okB b hb;rw[alloc_size];omega) F.okT F.okF (fun i b h1 h2=>(F.ownB i b h1 h2).2.2) F.okS (F.fr.alloc o)
theorem Facts.freshNew {tm:Array Value} (F:Facts mine w0 st tm w μ ok) (o:Obj):FreshB mine w0 st (w.alloc o) μ ok w.heap.size:=
 ⟨by rw[alloc_size];omega,.inl F.fr.size,fun h=>by have:=F.okB _ h;omega,fun i hi hb=>by have:=(F.ownB i _ hi hb).1;omega⟩
theorem Grow.alloc (o:Obj) {v:AV} {x:Value} (hx: ∀b,((x= .pointer (some ⟨b,0,none⟩))∨(∃n c,x= .slice (some ⟨b,0,none⟩) n c)∨x= .map (some b))→b=w.heap.size):Grow w ok (w.alloc o) ok v x:=
 ⟨⟨rfl,rfl,rfl,by rw[alloc_size];omega,fun k hk _=>RowKit.Below.heap_alloc _ _ _ hk⟩,fun _ _ h=>h,fun _ _ h=> .inl h,fun _ b hb=>by rw[hx b hb];exact Nat.le_refl _⟩
theorem All2.alloc {tm:Array Value} (F:Facts mine w0 st tm w μ ok) (o:Obj) {cs:List SV} {vs:List Value} (h:All2 (SVRel w μ ok) cs vs):All2 (SVRel (w.alloc o) μ ok) cs vs:=
 h.imp fun x v hxv=>hxv.mono (fun f b hb=>RowKit.Below.heap_alloc _ _ _ (F.okB b (F.ok_any hb))) (fun _ _ h=>h) (fun _ _=>rfl)
end
section
variable {P:Program} {mine:Cx} {w0:World} {st:St} {a:Act} {w:World} {μ:Locs} {ok:OK} {tb:Tab}
def Gives (P:Program) (mine:Cx) (w0:World) (st:St) (a:Act) (w:World) (μ:Locs) (ok:OK) (r:Sem Value) (v:AV):Prop:=
 ∃x w1 ok1,r.run P w= .ok x w1∧Facts mine w0 st a.tmps w1 μ ok1∧NewRel mine w0 st w1 μ ok1 v x∧Grow w ok w1 ok1 v x
theorem Gives.pure (F:Facts mine w0 st a.tmps w μ ok) {r:Sem Value} {v:AV} {x:Value} (hr:r.run P w= .ok x w) (ho:v.isOwner=false) (h:AVRel w μ ok v x):Gives P mine w0 st a w μ ok r v:=
 ⟨x,w,ok,hr,F,NewRel.of_av ho h,.refl ho⟩
theorem wrap_has (k:IntKind) (n:Int):k.has (k.wrap n):=by
 cases k<;>(unfold IntKind.has IntKind.wrap IntKind.min IntKind.max;simp [IntKind.signed,IntKind.bits];(try split)<;>omega)
theorem fdiv_has {k:IntKind} {a:Int} (h:k.has a) (n:Nat):k.has (a.fdiv (2^n)):=by
 have hp:(0:Int)<2^n:=Int.pow_pos (by decide)
 have key: ∀lo hi:Int,lo≤0→0≤hi→lo≤a→a≤hi→lo≤a.fdiv (2^n)∧a.fdiv (2^n)≤hi:=by
  intro lo hi h1 h2 h3 h4
  rw[Int.fdiv_eq_ediv_of_nonneg _ (Int.le_of_lt hp)]
  constructor
  ·rw[Int.le_ediv_iff_mul_le hp]
   refine Int.le_trans ?_ h3
   have:(1:Int)≤2^n:=hp
   calc lo*2^n≤lo*1:=Int.mul_le_mul_of_nonpos_left h1 this
    _=lo:=Int.mul_one lo
  ·by_cases ha:0≤a
   ·exact Int.le_trans (Int.ediv_le_self _ ha) h4
   ·exact Int.le_trans (Int.le_of_lt (Int.ediv_neg_of_neg_of_pos (by omega) hp)) h2
 obtain⟨h1,h2⟩:=h
 exact key k.min k.max (by cases k<;>decide) (by cases k<;>decide) h1 h2
theorem tmod_has {k:IntKind} {a:Int} (h:k.has a) (b:Int) (hb:b≠0):k.has (a.tmod b):=by
 obtain⟨h1,h2⟩:=h
 have hlo:k.min≤0:=by cases k<;>decide
 have hhi:0≤k.max:=by cases k<;>decide
 by_cases ha:0≤a
 ·have g1:=Int.tmod_nonneg b ha
  have g2:a.tmod b≤a:=by
   have:=Int.natAbs_tmod a b
   have h3:(a.tmod b).natAbs≤a.natAbs:=by rw[this];exact Nat.mod_le _ _
   omega
  exact⟨by omega,by omega⟩
 ·have h3:(a.tmod b).natAbs≤a.natAbs:=by rw[Int.natAbs_tmod];exact Nat.mod_le _ _
  have g1:a.tmod b≤0:=by
   have:=Int.tmod_nonneg (-b) (a:= -a) (by omega)
   rw[Int.neg_tmod,Int.tmod_neg]at this
   omega
  exact⟨by omega,by omega⟩
theorem evInt_rel {op:BinOp} {k:IntKind} {x y:Int} {v:SV} (hx:k.has x) (hy:k.has y) (h:evInt op k x y=some (true,v)):
 ∃z,(∀T w,(binOp op T (.int k x) (.int k y)).run P w= .ok z w)∧SVRel w μ ok v z:=by
 cases op<;>simp only[evInt,Option.some.injEq,Prod.mk.injEq,true_and]at h<;>try (cases h;done)
 case quo=>
  obtain⟨h1,rfl⟩:=h
  have hy0:y≠0:=by simpa using h1
  exact⟨_,fun T w=>by simp [binOp,Op.intDiv,hy0],rfl,wrap_has _ _⟩
 case rem=>
  obtain⟨h1,rfl⟩:=h
  have hy0:y≠0:=by simpa using h1
  exact⟨_,fun T w=>by simp [binOp,Op.intDiv,hy0],rfl,tmod_has hx _ hy0⟩
 all_goals subst h
 case add=>exact⟨_,fun T w=>by simp [binOp,Op.intArith],rfl,wrap_has _ _⟩
 case sub=>exact⟨_,fun T w=>by simp [binOp,Op.intArith],rfl,wrap_has _ _⟩
 case mul=>exact⟨_,fun T w=>by simp [binOp,Op.intArith],rfl,wrap_has _ _⟩
 case and=>exact⟨_,fun T w=>by simp [binOp,Op.intBits],rfl,wrap_has _ _⟩
 case or=>exact⟨_,fun T w=>by simp [binOp,Op.intBits],rfl,wrap_has _ _⟩
 case xor=>exact⟨_,fun T w=>by simp [binOp,Op.intBits],rfl,wrap_has _ _⟩
 case andNot=>exact⟨_,fun T w=>by simp [binOp,Op.intBits],rfl,wrap_has _ _⟩
 case eql=>exact⟨_,fun T w=>by simp [binOp,Op.intCmp],rfl⟩
 case neq=>exact⟨_,fun T w=>by simp [binOp,Op.intCmp],rfl⟩
 case lss=>exact⟨_,fun T w=>by simp [binOp,Op.intCmp],rfl⟩
 case leq=>exact⟨_,fun T w=>by simp [binOp,Op.intCmp],rfl⟩
 case gtr=>exact⟨_,fun T w=>by simp [binOp,Op.intCmp],rfl⟩
 case geq=>exact⟨_,fun T w=>by simp [binOp,Op.intCmp],rfl⟩
end
section
variable {P:Program} {mine:Cx} {w0:World} {st:St} {a:Act} {w:World} {μ:Locs} {ok:OK} {tb:Tab}
theorem eqCells_rel: ∀ {ks:List CK} {xs ys:List SV} {us vs:List Value} {b:Bool},All2 (SVRel w μ ok) xs us→All2 (SVRel w μ ok) ys vs→eqCells ks xs ys=some b→
 us.length=ks.length∧vs.length=ks.length∧(∀(i:Nat) (k:CK),ks[i]? =some k→ ∀x y,us[i]? =some x→vs[i]? =some y→CK.ok k x y)∧sameAll us vs=b:=by
 have cell: ∀ {k:CK} {x y:SV} {u v:Value} {b:Bool},SVRel w μ ok x u→SVRel w μ ok y v→eqCell k x y=some b→CK.ok k u v∧CK.same u v=b:=by
  intro k x y u v b hx hy h
  cases k<;>cases x<;>cases y<;>simp only[eqCell]at h<;>try (cases h;done)
  ·rename_i k k1 a k2 c
   cases h1:(ikEq k k1&&ikEq k k2)with
   |false=>simp [h1]at h
   |true=>
    simp only[h1,cond_true,Option.some.injEq]at h
    simp only[Bool.and_eq_true]at h1
    obtain rfl:=ikEq_eq h1.1
    obtain rfl:=ikEq_eq h1.2
    obtain⟨rfl,_⟩:=hx
    obtain⟨rfl,_⟩:=hy
    exact⟨⟨_,_,rfl,rfl⟩,h⟩
  ·simp only[Option.some.injEq]at h
   rw[show u=_ from hx,show v=_ from hy]
   exact⟨⟨_,_,rfl,rfl⟩,h⟩
  ·simp only[Option.some.injEq]at h
   obtain⟨rfl,_⟩:=hx
   obtain⟨rfl,_⟩:=hy
   exact⟨⟨_,_,rfl,rfl⟩,h⟩
 intro ks
 induction ks with
 |nil=>
  intro xs ys us vs b h1 h2 h
  cases h1 with
  |nil=>
   cases h2 with
   |nil=>simp [eqCells]at h;subst h;exact⟨rfl,rfl,by simp,rfl⟩
   |cons _ _=>simp [eqCells]at h
  |cons _ _=>simp [eqCells]at h
 |cons k ks ih=>
  intro xs ys us vs b h1 h2 h
  cases h1 with
  |nil=>cases ks<;>simp [eqCells]at h
  | @cons x u xs us hx tx=>
    cases h2 with
    |nil=>cases ks<;>cases xs<;>simp [eqCells]at h
    | @cons y v ys vs hy ty=>
      have gen: ∀b1 b2,eqCell k x y=some b1→eqCells ks xs ys=some b2→b=(b1&&b2)→
       (u::us).length=(k::ks).length∧(v::vs).length=(k::ks).length∧(∀(i:Nat) (k':CK),(k::ks)[i]? =some k'→ ∀x y,(u::us)[i]? =some x→(v::vs)[i]? =some y→CK.ok k' x y)∧sameAll (u::us) (v::vs)=b:=by
       intro b1 b2 e1 e2 e3
       obtain⟨g1,g2⟩:=cell hx hy e1
       obtain⟨l1,l2,l3,l4⟩:=ih tx ty e2
       refine⟨by simp [l1],by simp [l2], ?_,by simp [sameAll,g2,l4,e3]⟩
       intro i k' hk x' y' hx' hy'
       cases i with
       |zero=>simp at hk hx' hy';subst hk hx' hy';exact g1
       |succ i=>exact l3 i k' (by simpa using hk) x' y' (by simpa using hx') (by simpa using hy')
      by_cases hnil:ks=[]∧xs=[]∧ys=[]
      ·obtain⟨rfl,rfl,rfl⟩:=hnil
       have h':eqCell k x y=some b:=by simpa [eqCells]using h
       exact gen b true h' rfl (by simp)
      ·have h':(match eqCell k x y with
        |some b=>match eqCells ks xs ys with
         |some c=>some (b&&c)
         |none=>none
        |none=>none)=some b:=by
        rw[←h]
        cases ks<;>cases xs<;>cases ys<;>first|rfl|exact absurd ⟨rfl,rfl,rfl⟩ hnil
       split at h'
       ·rename_i b1 e1
        split at h'
        ·rename_i b2 e2
         simp only[Option.some.injEq]at h'
         exact gen b1 b2 e1 e2 h'.symm
        ·cases h'
       ·cases h'
theorem eqk_ok (hP:TabOk P tb) {T:TypeId} {ti:TI} {ks:List CK} (hT:Tab.get tb T=some ti) (h:(∃n z fs,ti= .struct n z fs (some ks))∨(∃n z,ti= .array n z (some ks))):EqOk P T ks:=by
 have:=hP T ti hT
 rcases h with⟨n,z,fs,rfl⟩|⟨n,z,rfl⟩
 ·obtain⟨_,_,_,_,_,_,_,_,_,_,_,h⟩:=this
  exact h ks rfl
 ·obtain⟨_,_,_,_,_,_,_,_,_,_,_,_,_,_,_,h⟩:=this
  exact h ks rfl
theorem isNil_rel {x:SV} {v:Value} {b:Bool} (hx:SVRel w μ ok x v) (h:isNil x=some b): ∃A n c,v= .slice A n c∧A.isNone=b:=by
 cases x<;>simp only[isNil]at h<;>try (cases h;done)
 ·cases h;exact⟨none,0,0,hx,rfl⟩
 ·subst h
  obtain⟨h1,h2⟩:=hx
  cases b with
  |true=>exact⟨none,0,0,h2,rfl⟩
  |false=>obtain⟨a,n,c,rfl⟩:=h2;exact⟨some a,n,c,rfl,rfl⟩
theorem isNil_rel' {x:SV} {v:Value} {b:Bool} (hx:AVRel w μ ok (.one x) v) (h:isNil x=some b): ∃A n c,v= .slice A n c∧A.isNone=b:=by
 have hj:x≠ .junk:=by intro e;subst e;simp [isNil]at h
 rw[AVRel.eq1 hj]at hx
 exact isNil_rel hx h
theorem run_equal_bool {T:TypeId} (hT:P.underlying T=some .bool) (b c:Bool):(Op.equal T (.bool b) (.bool c)).run P w= .ok (b==c) w:=by
 have h: ∀d,(Op.equalIn (d+1) T (.bool b) (.bool c)).run P w= .ok (b==c) w:=by
  intro d
  simp only[Op.equalIn,underlying,Sem.run_bind,run_program,Result.andThen_ok,hT,Sem.run_pure]
 exact h 9999
theorem run_equal_nil {T e:TypeId} (hT:P.underlying T=some (.slice e)) (A:Option Addr) (n c:Nat):(Op.equal T (.slice A n c) (.slice none 0 0)).run P w= .ok A.isNone w:=by
 have h: ∀d,(Op.equalIn (d+1) T (.slice A n c) (.slice none 0 0)).run P w= .ok A.isNone w:=by
  intro d
  cases A<;>simp only[Op.equalIn,underlying,Sem.run_bind,run_program,Result.andThen_ok,hT,Sem.run_pure,Option.isNone]
 exact h 9999
theorem evBin_agg {op:BinOp} {T:TypeId} {xs ys:List SV} {us vs:List Value} {r:AV} {ox oy:Operand} {ks:List CK} (h1:All2 (SVRel w μ ok) xs us) (h2:All2 (SVRel w μ ok) ys vs) (hE:EqOk P T ks)
 (h:(match eqCells ks xs ys,op with
  |some b,.eql=>some (true,AV.one (.bool b))
  |some b,.neq=>some (true,.one (.bool (!b)))
  |_,_=>none)=some (true,r)):
 ∃z,(do eqGuard op T ox oy (.agg us.toArray) (.agg vs.toArray);binOp op T (.agg us.toArray) (.agg vs.toArray):Sem Value).run P w= .ok z w∧r.isOwner=false∧AVRel w μ ok r z:=by
 split at h
 all_goals (try (cases h;done))
 all_goals
  rename_i b he
  cases h
  obtain⟨g1,g2,g3,g4⟩:=eqCells_rel h1 h2 he
  obtain⟨e1,e2⟩:=hE w us vs g1 g2 g3
  rw[g4]at e1
  have hg: ∀op,(eqGuard op T ox oy (.agg us.toArray) (.agg vs.toArray)).run P w= .ok () w:=by
   intro op;unfold eqGuard;cases op<;>simp [e2]
 ·exact⟨.bool b,by simp only[Sem.run_bind,hg,Result.andThen_ok,binOp,e1,Sem.run_pure],rfl,rfl⟩
 ·exact⟨.bool (!b),by simp only[Sem.run_bind,hg,Result.andThen_ok,binOp,e1,Sem.run_pure],rfl,rfl⟩
theorem evBin_rel (hP:TabOk P tb) {op:BinOp} {T:TypeId} {x y:AV} {u v:Value} {r:AV} {ox oy:Operand}
 (hx:AVRel w μ ok x u) (hy:AVRel w μ ok y v) (h:evBin tb op T x y=some (true,r)):
 ∃z,(do eqGuard op T ox oy u v;binOp op T u v:Sem Value).run P w= .ok z w∧r.isOwner=false∧AVRel w μ ok r z:=by
 unfold evBin at h
 split at h
 ·
  rename_i k a k' b
  obtain⟨rfl,ha⟩:=(hx:SVRel w μ ok (.int k a) u)
  obtain⟨rfl,hb⟩:=(hy:SVRel w μ ok (.int k' b) v)
  have hg:(eqGuard op T ox oy (.int k a) (.int k' b)).run P w= .ok () w:=by
   unfold eqGuard;cases op<;>simp
  split at h
  ·simp only[Option.some.injEq,Prod.mk.injEq,decide_eq_true_eq]at h
   obtain⟨h0,rfl⟩:=h
   refine⟨_, ?_,rfl,rfl,wrap_has _ _⟩
   simp only[Sem.run_bind,hg,Result.andThen_ok,binOp,Op.shift]
   simp [show ¬b<0 by omega]
  ·simp only[Option.some.injEq,Prod.mk.injEq,decide_eq_true_eq]at h
   obtain⟨h0,rfl⟩:=h
   refine⟨_, ?_,rfl,rfl,fdiv_has ha _⟩
   simp only[Sem.run_bind,hg,Result.andThen_ok,binOp,Op.shift]
   simp [show ¬b<0 by omega]
  ·cases hk:ikEq k k' with
   |false=>simp [hk]at h
   |true=>
    obtain rfl:=ikEq_eq hk
    simp only[hk,cond_true]at h
    split at h
    ·rename_i g sv he
     simp only[Option.some.injEq,Prod.mk.injEq]at h
     obtain⟨rfl,rfl⟩:=h
     obtain⟨z,hz,hs⟩:=evInt_rel (μ:=μ) (ok:=ok) (w:=w) ha hb he
     refine⟨z, ?_,rfl, ?_⟩
     ·simp only[Sem.run_bind,hg,Result.andThen_ok];exact hz T w
     ·by_cases hj:sv= .junk
      ·subst hj;trivial
      ·rw[AVRel.eq1 hj];exact hs
    ·cases h
 ·
  rename_i b c
  rw[show u= .bool b from hx,show v= .bool c from hy]
  have hg:(eqGuard op T ox oy (.bool b) (.bool c)).run P w= .ok () w:=by
   unfold eqGuard;cases op<;>simp
  split at h
  all_goals (try (cases h;done))
  all_goals
   rename_i z hT
   obtain⟨i,d,zv,_,_,h3,_,_,_,_,_,h8,_⟩:=hP T _ hT
   rw[h8 z rfl]at h3
   cases h
  ·exact⟨.bool (b==c),by simp only[Sem.run_bind,hg,Result.andThen_ok,binOp,run_equal_bool h3,Sem.run_pure],rfl,rfl⟩
  ·exact⟨.bool (!(b==c)),by simp only[Sem.run_bind,hg,Result.andThen_ok,binOp,run_equal_bool h3,Sem.run_pure],rfl,rfl⟩
 ·
  rename_i b c
  obtain⟨rfl,_⟩:=(hx:SVRel w μ ok (.str b) u)
  obtain⟨rfl,_⟩:=(hy:SVRel w μ ok (.str c) v)
  have hg:(eqGuard op T ox oy (.string b) (.string c)).run P w= .ok () w:=by
   unfold eqGuard;cases op<;>simp
  split at h
  ·cases h;exact⟨.bool (b.toList==c.toList),by simp [hg,binOp,Op.stringOp],rfl,rfl⟩
  ·cases h;exact⟨.bool (!(b.toList==c.toList)),by simp [hg,binOp,Op.stringOp],rfl,rfl⟩
  ·simp only[Option.some.injEq,Prod.mk.injEq,decide_eq_true_eq]at h
   obtain⟨hle,rfl⟩:=h
   have hn: ¬(9223372036854775807<((b.size:Int)+(c.size:Int))):=by omega
   exact⟨.string (b++c),by simp [hg,binOp,Op.stringOp,IntKind.max,IntKind.bits,IntKind.signed,hn],rfl,rfl,by rw[ByteArray.size_append];exact hle⟩
  ·cases h
 ·
  split at h
  all_goals (try (cases h;done))
  all_goals
   rename_i b e t bytes hn hT
   cases h
   obtain⟨A,n,c,rfl,hA⟩:=isNil_rel' hx hn
   obtain⟨i,ei,ze,_,_,_,h4,_⟩:=hP T _ hT
   rw[show v= .slice none 0 0 from hy]
   have hg: ∀op,(eqGuard op T ox oy (.slice A n c) (.slice none 0 0)).run P w= .ok () w:=by
    intro op;unfold eqGuard;cases op<;>simp
  ·exact⟨.bool b,by simp only[Sem.run_bind,hg,Result.andThen_ok,binOp,run_equal_nil h4,Sem.run_pure,hA],rfl,rfl⟩
  ·exact⟨.bool (!b),by simp only[Sem.run_bind,hg,Result.andThen_ok,binOp,run_equal_nil h4,Sem.run_pure,hA],rfl,rfl⟩
 ·
  rename_i xs ys
  obtain⟨us,rfl,h1⟩:=hx
  obtain⟨vs,rfl,h2⟩:=hy
  split at h
  ·rename_i n z fs ks hT
   exact evBin_agg h1 h2 (eqk_ok hP hT (.inl ⟨_,_,_,rfl⟩)) h
  ·rename_i n z ks hT
   exact evBin_agg h1 h2 (eqk_ok hP hT (.inr ⟨_,_,rfl⟩)) h
  ·cases h
 ·cases h
end
section
variable {P:Program} {mine:Cx} {w0:World} {st:St} {a:Act} {w:World} {μ:Locs} {ok:OK} {tb:Tab}
theorem one_of {x:SV} {v:Value} (hj:x≠ .junk) (h:AVRel w μ ok (.one x) v):SVRel w μ ok x v:=by rwa [AVRel.eq1 hj]at h
theorem load_gives (hP:TabOk P tb) (F:Facts mine w0 st a.tmps w μ ok) {T:TypeId} {p v:AV} {pv:Value} (hp:AVRel w μ ok p pv) (h:evLoad tb st T p=some (true,v)):
 Gives P mine w0 st a w μ ok (Instr.loadAt T pv) v:=by
 unfold evLoad at h
 split at h
 ·rename_i ti p hT
  split at h
  ·rename_i cs hc
   cases hn:Nat.beq cs.length ti.size with
   |false=>simp [hn]at h
   |true=>
    have hn':=Nat.eq_of_beq_eq_true hn
    simp only[hn,cond_true]at h
    split at h
    ·rename_i v' hv
     simp only[Option.some.injEq,Prod.mk.injEq,true_and]at h
     subst h
     have hj:p≠ .junk:=by intro e;subst e;simp [ldCells]at hc
     obtain⟨b,o,vs,rfl,g1,g2,g3⟩:=ldCells_rel F (one_of hj hp) hc hn'
     obtain⟨ho,hr⟩:=asVal_rel g3 hv
     have hrun:=run_loadAt hP hT g1 g2 (by
      intro hf
      rcases hr with⟨e,_⟩|⟨_,x,e,_⟩
      ·rw[hf]at e;cases e
      ·exact⟨x,e⟩)
     rcases hr with⟨e,hr⟩|⟨e,x,rfl,hr⟩
     ·rw[e]at hrun;exact Gives.pure F hrun ho hr
     ·rw[e]at hrun;exact Gives.pure F hrun ho hr
    ·cases h
  ·cases h
 ·cases h
theorem addOff_rel {p q:SV} {v:Value} {o:Nat} (hp:SVRel w μ ok p v) (h:addOff p o=some q): ∃b x,v= .pointer (some ⟨b,x,none⟩)∧SVRel w μ ok q (.pointer (some ⟨b,x+o,none⟩))∧q≠ .junk:=by
 cases p<;>simp only[addOff]at h<;>try (cases h;done)
 ·cases h
  obtain⟨b,h1,rfl⟩:=hp
  exact⟨b,_,rfl,⟨b,h1,rfl⟩,by simp⟩
 ·cases h
  obtain⟨b,h1,rfl,h2⟩:=hp
  exact⟨b,_,rfl,⟨b,h1,by rw[Nat.add_assoc],h2⟩,by simp⟩
 ·cases h
  obtain⟨b,x,cs,rfl,h1,h2,h3⟩:=hp
  exact⟨b,_,rfl,⟨b,x,cs,by rw[Nat.add_assoc],h1,h2,h3⟩,by simp⟩
theorem fieldAddr_gives (hP:TabOk P tb) (F:Facts mine w0 st a.tmps w μ ok) {T f:Nat} {p v:AV} {pv:Value} (hp:AVRel w μ ok p pv) (h:evFieldAddr tb T p f=some (true,v)):
 Gives P mine w0 st a w μ ok (Instr.fieldAt T pv f) v:=by
 unfold evFieldAddr at h
 split at h
 ·rename_i n z fs eqk p hT
  split at h
  ·rename_i o m b hf
   split at h
   ·rename_i q hq
    simp only[Option.some.injEq,Prod.mk.injEq,true_and]at h
    subst h
    have hj:p≠ .junk:=by intro e;subst e;simp [addOff]at hq
    obtain⟨b',x,rfl,h2,h3⟩:=addOff_rel (one_of hj hp) hq
    obtain⟨i,Fs,zv,_,_,e3,_,_,_,_,e8,_⟩:=hP T _ hT
    obtain⟨fd,fi,fdd,k1,k2,k3,k4,k5,_⟩:=e8 f o m b hf
    refine Gives.pure F (x:= .pointer (some ⟨b',x+o,none⟩)) ?_ rfl (by rw[AVRel.eq1 h3];exact h2)
    have hm: ¬m=0:=by omega
    simp [Instr.fieldAt,underlying,e3,k1,Instr.sureAddr,fieldPlace,Go.sizeOf,typeInfo,k3,k4,hm,add_none,k2]
   ·cases h
  ·cases h
 ·cases h
theorem inB_iff {i:Int} {n:Nat}:inB i n=true↔0≤i∧i<(n:Int):=by simp [inB]
theorem TRel.slAddr {w:World} {okf:Nat→Prop} {t:Ty} {xs:List t.D} {v:Value} (h:TRel w okf (.sl t) xs [v]): ∃A c,v= .slice A xs.length c∧
 ∀j (hj:j<xs.length),∃b o cs,A=some ⟨b,o,none⟩∧okf b∧TRel w okf t xs[j] cs∧Cells w b (o+j*t.size) cs:=by
 obtain⟨A,c,e,h1,h2,h3⟩:=h
 simp only[List.cons.injEq,and_true]at e
 refine⟨A,c,e,fun j hj=> ?_⟩
 rcases h3 with⟨_,h3,_⟩|⟨b,o,⟨sp,rfl,hsp⟩,hb,h3⟩
 ·subst h3;simp at hj
 ·obtain rfl:=hsp (by intro e0;simp [e0]at hj)
  obtain⟨cs,h4,h5⟩:=h3 j hj
  exact⟨b,o,cs,rfl,hb (by intro e0;simp [e0]at hj),h4,h5⟩
theorem getD_at {α:Type} (xs:List α) (d:α) {i:Nat} (h:i<xs.length):xs.getD i d=xs[i]:=by simp [List.getD_eq_getElem?_getD,h]
theorem indexAddr_gives (hP:TabOk P tb) (F:Facts mine w0 st a.tmps w μ ok) {T:TypeId} {x i v:AV} {xv iv:Value} (hx:AVRel w μ ok x xv) (hi:AVRel w μ ok i iv)
 (h:evIndexAddr tb st T x i=some (true,v)):Gives P mine w0 st a w μ ok (Instr.indexAt T xv iv) v:=by
 unfold evIndexAddr at h
 split at h
 ·rename_i e t bytes fr t' nl xs k i hT
  split at h
  ·rename_i ys hc
   obtain⟨rfl,rfl⟩:=castL_eq hc
   simp only[Option.some.injEq,Prod.mk.injEq,inB_iff]at h
   obtain⟨⟨h0,h1⟩,rfl⟩:=h
   obtain⟨rfl,_⟩:=(hi:SVRel w μ ok (.int k i) iv)
   obtain⟨ti,ei,ze,_,_,_,e4,e5,e6,_⟩:=hP T _ hT
   have hx':SVRel w μ ok (.sl fr t' nl xs) xv:=hx
   obtain⟨A,c,rfl,hA⟩:=hx'.1.slAddr
   have hlt:i.toNat<xs.length:=by omega
   obtain⟨b,o,cs,rfl,g1,g2,g3⟩:=hA i.toNat hlt
   refine Gives.pure F (x:= .pointer (some ⟨b,o+i.toNat*t'.size,none⟩)) ?_ rfl ?_
   ·simp [Instr.indexAt,asIntOf,underlying,e4,h0,h1,Go.sizeOf,typeInfo,e5,e6,add_none]
   ·refine⟨b,_,cs,rfl,g1, ?_,g3⟩
    show TRel w (ok fr) t' (xs.getD i.toNat t'.dflt) cs
    rw[getD_at _ _ hlt];exact g2
  ·cases h
 ·rename_i e t bytes s n k i hT
  obtain⟨rfl,_⟩:=(hi:SVRel w μ ok (.int k i) iv)
  obtain⟨ti,ei,ze,_,_,_,e4,e5,e6,_⟩:=hP T _ hT
  split at h
  ·rename_i fr t' xs hs
   cases hz:Nat.beq t.size t'.size with
   |false=>simp [hz]at h
   |true=>
    have hz':t.size=t'.size:=Nat.eq_of_beq_eq_true hz
    simp only[hz,cond_true]at h
    have ho:=F.owns s
    rw[hs]at ho
    obtain⟨k1,k2,k3,k4⟩:=ho
    have hx':SVRel w μ ok (.hot s n) xv:=hx
    obtain⟨rfl,hm,_⟩:=hx'
    have fin: ∀m:Nat,n.getD (μ s).len=m→m≤(μ s).len→0≤i→i<(m:Int)→v= .one (.hptr s t'.size i 0)→Gives P mine w0 st a w μ ok (Instr.indexAt T (slv (μ s) n) (.int k i)) v:=by
     intro m hm1 hm2 h0 h1 hv
     subst hv
     rcases k4 with⟨_,k4,_⟩|⟨b,c,E,k4,k5,k6,k7⟩
     ·rw[k4]at k1;simp at k1;omega
     ·refine Gives.pure F (x:= .pointer (some ⟨b,i.toNat*t'.size,none⟩)) ?_ rfl ⟨b,k4,rfl,h0,by omega⟩
      have e6':ei.size=t'.size:=by rw[e6,hz']
      simp [Instr.indexAt,asIntOf,underlying,e4,slv,k4,hm1,h0,h1,Go.sizeOf,typeInfo,e5,e6',add_none]
    split at h
    ·simp only[Option.some.injEq,Prod.mk.injEq,inB_iff]at h
     exact fin (μ s).len rfl (Nat.le_refl _) h.1.1 (by rw[k1];exact h.1.2) h.2.symm
    ·rename_i m
     simp only[Option.some.injEq,Prod.mk.injEq,inB_iff]at h
     exact fin m rfl (hm m rfl) h.1.1 h.1.2 h.2.symm
  ·cases h
 ·simp at h
 ·rename_i len z eqk s off k i hT
  simp only[Option.some.injEq,Prod.mk.injEq,inB_iff]at h
  obtain⟨⟨h0,h1⟩,rfl⟩:=h
  obtain⟨rfl,_⟩:=(hi:SVRel w μ ok (.int k i) iv)
  obtain⟨ti,zv,e,ei,ed,_,_,e3,_,_,_,e7,e8,_⟩:=hP T _ hT
  have hx':SVRel w μ ok (.ptr s off) xv:=hx
  obtain⟨b,g1,rfl⟩:=hx'
  refine Gives.pure F (x:= .pointer (some ⟨b,off+i.toNat,none⟩)) ?_ rfl ⟨b,g1,rfl,h0,h1⟩
  simp [Instr.indexAt,asIntOf,underlying,e3,Instr.sureAddr,h0,h1,Go.sizeOf,typeInfo,e7,e8,add_none]
 ·rename_i len z eqk g n k i hT
  cases hz:Nat.beq n len with
  |false=>rw[hz]at h;cases h
  |true=>
   obtain rfl:=Nat.eq_of_beq_eq_true hz
   rw[hz]at h
   simp only[cond_true,Option.some.injEq,Prod.mk.injEq,inB_iff]at h
   obtain⟨⟨h0,h1⟩,rfl⟩:=h
   obtain⟨rfl,_⟩:=(hi:SVRel w μ ok (.int k i) iv)
   obtain⟨ti,zv,e,ei,ed,_,_,e3,_,_,_,e7,e8,_⟩:=hP T _ hT
   obtain⟨rfl,_⟩:=(hx:SVRel0 w μ ok (.gp g n (.ofNat 0)) xv)
   refine Gives.pure F (x:= .pointer (some ⟨g,i.toNat,none⟩)) ?_ rfl ⟨rfl,h0,h1⟩
   simp [Instr.indexAt,asIntOf,underlying,e3,Instr.sureAddr,h0,h1,Go.sizeOf,typeInfo,e7,e8,add_none]
 ·cases h
theorem index_gives (hP:TabOk P tb) (F:Facts mine w0 st a.tmps w μ ok) {T:TypeId} {x i v:AV} {xv iv:Value} (hx:AVRel w μ ok x xv) (hi:AVRel w μ ok i iv)
 (h:evIndex tb T x i=some (true,v)):Gives P mine w0 st a w μ ok (Instr.index T xv iv) v:=by
 unfold evIndex at h
 split at h
 ·rename_i z s k i hT
  simp only[Option.some.injEq,Prod.mk.injEq,inB_iff]at h
  obtain⟨⟨h0,h1⟩,rfl⟩:=h
  obtain⟨rfl,_⟩:=(hi:SVRel w μ ok (.int k i) iv)
  obtain⟨rfl,_⟩:=(hx:SVRel w μ ok (.str s) xv)
  obtain⟨ti,d,zv,_,_,e3,_,_,_,_,_,_,e9⟩:=hP T _ hT
  have e9:=e9 _ rfl
  subst e9
  have hlt:i.toNat<s.size:=by omega
  have hb:byteAt s i.toNat=((s[i.toNat]).toNat:Int):=by
   have hl:i.toNat<s.data.toList.length:=by simpa using hlt
   unfold byteAt
   rw[List.getD_eq_getElem?_getD,List.getElem?_eq_getElem hl]
   rfl
  refine Gives.pure F (x:= .int .u8 (byteAt s i.toNat)) ?_ rfl ⟨rfl, ?_⟩
  ·have hat:s[i.toNat]? =some (s[i.toNat]):=by rw[getElem?_pos]
   simp [Instr.index,asIntOf,underlying,e3,h0,hat,hb]
  ·rw[hb]
   have hu:(s[i.toNat]).toNat<256:=(s[i.toNat]).toNat_lt
   simp [IntKind.has,IntKind.min,IntKind.max,IntKind.signed,IntKind.bits]
   omega
 ·rename_i len z eqk cs k i hT
  split at h
  ·rename_i k' l he
   cases hl:Nat.beq l.length len with
   |false=>simp [hl]at h
   |true=>
    have hl':=Nat.eq_of_beq_eq_true hl
    simp only[hl,cond_true,Option.some.injEq,Prod.mk.injEq,inB_iff]at h
    obtain⟨⟨h0,h1⟩,rfl⟩:=h
    obtain⟨rfl,_⟩:=(hi:SVRel w μ ok (.int k i) iv)
    obtain⟨vs,rfl,hh⟩:=hx
    obtain⟨ti,zv,e,ei,ed,_,_,e3,_,_,_,e7,e8,e9,e10,_⟩:=hP T _ hT
    obtain⟨g1,g2⟩:=selInt_rel hh he
    have hlt:i.toNat<l.length:=by omega
    have hagg:(Go.isAgg e).run P w= .ok false w:=by
     simp only[Go.isAgg,underlying,Sem.run_bind,run_program,Result.andThen_ok,e9,Sem.run_pure]
     cases ed<;>first|rfl|cases e10
    refine Gives.pure F (x:= .int k' (l.getD i.toNat 0)) ?_ rfl ⟨rfl,g2 _ (by rw[getD_at _ _ hlt];exact List.getElem_mem _)⟩
    have hat:vs[i.toNat]? =some (.int k' (l.getD i.toNat 0)):=by rw[g1,getD_at _ _ hlt];simp [hlt]
    simp [Instr.index,asIntOf,underlying,e3,h0,h1,Go.sizeOf,typeInfo,e7,e8,part,hagg,hat]
  ·cases h
 ·cases h
theorem run_part {f:Field} {fi:TypeInfo} {fd:TypeDesc} {m o:Nat} {b:Bool} (h1:P.info? f.type=some fi) (h2:fi.size=m) (h3:P.underlying f.type=some fd) (h4:Agg fd=b) {us vs:List Value}
 (hvs:(us.drop o).take m=vs) (hlen:vs.length=m) (hb:b=false→ ∃x,vs=[x]):
 (part f.type us.toArray o).run P w= .ok (if b then .agg vs.toArray else vs.headD undef) w:=by
 have hagg:(Go.isAgg f.type).run P w= .ok b w:=by
  simp only[Go.isAgg,underlying,Sem.run_bind,run_program,Result.andThen_ok,h3,Sem.run_pure]
  cases fd<;>first|(subst h4;rfl)
 cases b with
 |true=>
  simp only[part,Sem.run_bind,hagg,Result.andThen_ok,if_true,Go.sizeOf,typeInfo,run_program,h1,Sem.run_pure,h2]
  congr 2
  rw[←hvs]
  apply Array.ext'
  simp [List.extract_eq_take_drop,Nat.add_sub_cancel_left]
 |false=>
  obtain⟨x,rfl⟩:=hb rfl
  have hx:us[o]? =some x:=by
   have:=congrArg (fun l=>l[0]?) hvs
   simp only[List.getElem?_take,List.getElem?_drop]at this
   simp at hlen
   subst hlen
   simpa using this
  simp [part,hagg,hx]
theorem field_gives (hP:TabOk P tb) (F:Facts mine w0 st a.tmps w μ ok) {T f:Nat} {x v:AV} {xv:Value} (hx:AVRel w μ ok x xv) (h:evField tb T x f=some (true,v)):
 Gives P mine w0 st a w μ ok (Instr.field T xv f) v:=by
 unfold evField at h
 split at h
 ·rename_i n z fs eqk cs hT
  split at h
  ·rename_i o m b hf
   split at h
   ·rename_i v' hv
    cases hn:Nat.beq ((cs.drop o).take m).length m with
    |false=>simp only[hn,cond_false]at h;cases h
    |true=>
     have hn':=Nat.eq_of_beq_eq_true hn
     simp only[hn,cond_true,Option.some.injEq,Prod.mk.injEq,true_and]at h
     subst h
     obtain⟨us,rfl,hh⟩:=hx
     obtain⟨i,Fs,zv,_,_,e3,_,_,_,_,e8,_⟩:=hP T _ hT
     obtain⟨fd,fi,fdd,k1,k2,k3,k4,k5,k6,k7⟩:=e8 f o m b hf
     have g3:=(hh.drop o).take m
     obtain⟨ho,hr⟩:=asVal_rel g3 hv
     have hrun:=run_part (w:=w) k3 k4 k6 k7 (us:=us) (o:=o) rfl (by rw[←g3.length];exact hn') (by
      intro hf
      rcases hr with⟨e,_⟩|⟨_,x,e,_⟩
      ·rw[hf]at e;cases e
      ·exact⟨x,e⟩)
     have hrun':(Instr.field T (.agg us.toArray) f).run P w= .ok (if b=true then .agg ((us.drop o).take m).toArray else((us.drop o).take m).headD undef) w:=by
      unfold Instr.field
      simp only[underlying,Sem.run_bind,run_program,Result.andThen_ok,e3,Sem.run_pure,k1,asAgg,k2]
      exact hrun
     rcases hr with⟨e,hr⟩|⟨e,x,e2,hr⟩
     ·rw[e]at hrun';exact Gives.pure F hrun' ho hr
     ·rw[e,e2]at hrun';exact Gives.pure F hrun' ho hr
   ·cases h
  ·cases h
 ·cases h
theorem extract_gives (F:Facts mine w0 st a.tmps w μ ok) {l:List (Bool×List SV)} {xv:Value} {j:Nat} {f:Bool} {cs:List SV} {v:AV} (hx:AVRel w μ ok (.tup l) xv) (hl:l[j]? =some (f,cs))
 (hv:asVal f cs=some v):Gives P mine w0 st a w μ ok (Instr.extract xv j) v:=by
 obtain⟨vs,rfl,hh⟩:=hx
 obtain⟨x,h1,h2⟩:=hh.get j _ hl
 have hrun:(Instr.extract (.tuple vs.toArray) j).run P w= .ok x w:=by simp [Instr.extract,h1]
 cases f with
 |true=>
  obtain⟨us,rfl,hu⟩:=h2
  obtain⟨ho,hr⟩:=asVal_rel hu hv
  rcases hr with⟨_,hr⟩|⟨e,_⟩
  ·exact Gives.pure F hrun ho hr
  ·cases e
 |false=>
  obtain⟨y,rfl,hy⟩:=h2
  obtain⟨ho,hr⟩:=asVal_rel (.cons hy .nil) hv
  rcases hr with⟨e,_⟩|⟨_,x',e,hr⟩
  ·cases e
  ·cases e;exact Gives.pure F hrun ho hr
theorem newRow_gives (F:Facts mine w0 st a.tmps w μ ok) {r:Sem Value} {T:TypeId} {cs:List SV} {c:Array Value} (h:All2 (SVRel w μ ok) cs c.toList)
 (hr:r.run P w= .ok (.pointer (some ⟨w.heap.size,0,none⟩)) (w.alloc (.cells c T))):Gives P mine w0 st a w μ ok r (.own cs):=
 ⟨_,_,ok,hr,F.alloc _,⟨w.heap.size,c,T,rfl,heap_at_new w _,All2.alloc F _ h,F.freshNew _⟩,.alloc _ (by rintro b (h|⟨n,c,h⟩|h)<;>simp at h;exact h.symm)⟩
theorem alloc_gives (hP:TabOk P tb) (F:Facts mine w0 st a.tmps w μ ok) {T:TypeId} {ti:TI} (hT:Tab.get tb T=some ti):Gives P mine w0 st a w μ ok (Instr.alloc T true (.tuple #[])) (.own ti.zero):=by
 obtain⟨zv,h1,h2⟩:=(hP T ti hT).zero (w:=w)
 refine newRow_gives F (T:=T) (c:=zv.cells) (h2 w μ ok) ?_
 simp [Instr.alloc,h1,newVar,newRow]
theorem box_gives (F:Facts mine w0 st a.tmps w μ ok) {T:TypeId} {x:AV} {v:Value} {cs:List SV} (hx:AVRel w μ ok x v) (hc:cellsOf x=some cs):
 Gives P mine w0 st a w μ ok (Instr.box T v) (.own cs):=by
 refine newRow_gives F (T:=T) (c:=v.cells) (cellsOf_rel hx hc) ?_
 simp [Instr.box,newVar,newRow]
theorem foldl_set: ∀(vs:List Value) (off k:Nat) (cs:Array Value),off+k+vs.length≤cs.size→
 ((vs.zipIdx k).foldl (fun cs p=>cs.setIfInBounds (off+p.2) p.1) cs).toList=cs.toList.take (off+k)++vs++cs.toList.drop (off+k+vs.length):=by
 intro vs
 induction vs with
 |nil=>intro off k cs h;simp
 |cons v vs ih=>
  intro off k cs h
  simp only[List.length_cons]at h
  simp only[List.zipIdx_cons,List.foldl_cons]
  rw[ih off (k+1) _ (by simp;omega)]
  simp only[Array.toList_setIfInBounds,Nat.add_zero]
  have hl:off+k<cs.toList.length:=by simp;omega
  have e:cs.toList.set (off+k) v=cs.toList.take (off+k)++v::cs.toList.drop (off+k+1):=by rw[List.set_eq_take_append_cons_drop,if_pos hl]
  have hlt:(cs.toList.take (off+k)).length=off+k:=by simp;omega
  rw[e,show off+(k+1)=off+k+1 by omega]
  have t1: ∀(A D:List Value) (n:Nat),A.length=n→(A++v::D).take (n+1)=A++[v]:=by
   intro A D n hn;subst hn;simp [List.take_append,List.take_of_length_le]
  have t2: ∀(A D:List Value) (n m:Nat),A.length=n→(A++v::D).drop (n+1+m)=D.drop m:=by
   intro A D n m hn;subst hn
   rw[List.drop_append,List.drop_of_length_le (by omega),show A.length+1+m-A.length=m+1 by omega];simp
  rw[t1 _ _ _ hlt,t2 _ _ _ _ hlt,List.drop_drop]
  simp [Nat.add_assoc,Nat.add_comm 1 vs.length]
theorem fill_rel: ∀ {parts:List (Nat×AV)} {vparts:List (Nat×Value)} {place:Nat→Option (Nat×Nat)} {cells cs':List SV} {vcells:Array Value},
 All2 (SVRel w μ ok) cells vcells.toList→All2 (fun(p:Nat×AV) (q:Nat×Value)=>p.1=q.1∧AVRel w μ ok p.2 q.2) parts vparts→fillParts place cells parts=some cs'→
 ∃c:Array Value,Instr.fill place vcells vparts=some c∧All2 (SVRel w μ ok) cs' c.toList:=by
 intro parts
 induction parts with
 |nil=>
  intro vparts place cells cs' vcells h hp hf
  cases hp
  simp only[fillParts,Option.some.injEq]at hf
  subst hf
  exact⟨vcells,rfl,h⟩
 |cons p parts ih=>
  intro vparts place cells cs' vcells h hp hf
  obtain⟨i,x⟩:=p
  cases hp with
  | @cons _ q _ vparts hpq ht=>
    obtain⟨j,v⟩:=q
    obtain⟨rfl,hx⟩:=hpq
    simp only[fillParts]at hf
    split at hf
    ·rename_i o n vs h1 h2
     cases hc:(Nat.beq vs.length n&&Nat.ble (o+n) cells.length)with
     |false=>simp [hc]at hf
     |true=>
      simp only[hc,cond_true]at hf
      simp only[Bool.and_eq_true]at hc
      have hc1:vs.length=n:=Nat.eq_of_beq_eq_true hc.1
      have hc2:o+n≤cells.length:=Nat.le_of_ble_eq_true hc.2
      have hvs:=cellsOf_rel hx h2
      have hl1:v.cells.size=n:=by rw[←hc1,hvs.length];simp
      have hl2:vcells.size=cells.length:=by rw[h.length];simp
      have hfold:(v.cells.zipIdx.foldl (fun cs (p:Value×Nat)=>cs.setIfInBounds (o+p.2) p.1) vcells).toList=vcells.toList.take o++v.cells.toList++vcells.toList.drop (o+v.cells.toList.length):=by
       rw[←Array.foldl_toList,Array.toList_zipIdx]
       exact foldl_set v.cells.toList o 0 vcells (by simp;omega)
      obtain⟨c,e1,e2⟩:=ih (place:=place) (vcells:=v.cells.zipIdx.foldl (fun cs (p:Value×Nat)=>cs.setIfInBounds (o+p.2) p.1) vcells) (cells:=splice cells o vs) (by
       rw[hfold]
       unfold splice
       rw[hvs.length]
       exact((h.take o).append hvs).append (h.drop _)) ht hf
      refine⟨c, ?_,e2⟩
      simp only[Instr.fill,h1]
      rw[if_neg (by simp;omega)]
      exact e1
    ·cases hf
end
section
variable {P:Program} {mine:Cx} {w0:World} {st:St} {a:Act} {w:World} {μ:Locs} {ok:OK} {tb:Tab}
def PartsRel (w:World) (μ:Locs) (ok:OK):List (Nat×AV)→List (Nat×Value)→Prop:=All2 fun(p:Nat×AV) (q:Nat×Value)=>p.1=q.1∧AVRel w μ ok p.2 q.2
theorem run_places (l:List Field) (h: ∀f∈l,∃fi,P.info? f.type=some fi):
 ((l.mapM fun f=>(do pure (f.offset,←Go.sizeOf f.type):Sem (Nat×Nat))).run P w)= .ok (l.map fun f=>(f.offset,((P.info? f.type).map (·.size)).getD 0)) w:=by
 induction l with
 |nil=>simp
 |cons f l ih=>
  obtain⟨fi,hfi⟩:=h f (by simp)
  have ih':=ih (fun g hg=>h g (by simp [hg]))
  simp only[List.mapM_cons,Sem.run_bind,Go.sizeOf,typeInfo,run_program,Result.andThen_ok,hfi,Sem.run_pure,Option.map_some,Option.getD_some,List.map_cons]at ih'⊢
  rw[ih'];simp
theorem fill_congr {p q:Nat→Option (Nat×Nat)} (h: ∀i,p i=q i) (cells:Array Value) (l:List (Nat×Value)):Instr.fill p cells l=Instr.fill q cells l:=by
 rw[show p=q from funext h]
theorem build_gives (hP:TabOk P tb) (F:Facts mine w0 st a.tmps w μ ok) {T:TypeId} {parts:List (Nat×AV)} {vparts:Array (Nat×Value)} {v:AV} (hp:PartsRel w μ ok parts vparts.toList)
 (h:evBuild tb T parts=some (true,v)):Gives P mine w0 st a w μ ok (Instr.build T vparts) v:=by
 unfold evBuild at h
 split at h
 ·rename_i n z fs eqk hT
  split at h
  ·rename_i cs hf
   cases h
   obtain⟨i,Fs,zv,e1,e2,e3,e4,e5,e6,e7,e8,_⟩:=hP T _ hT
   obtain⟨zv',z1,z2⟩:=(hP T _ hT).zero (w:=w)
   have hfs: ∀(j:Nat) (f:Field),Fs[j]? =some f→ ∃fi b,P.info? f.type=some fi∧fs[j]? =some (f.offset,fi.size,b):=by
    intro j f hj
    have hlt:j<fs.length:=by
     have:=(Array.getElem?_eq_some_iff.1 hj).1;omega
    obtain⟨⟨o,m,b⟩,hh⟩: ∃x,fs[j]? =some x:=⟨_,List.getElem?_eq_getElem hlt⟩
    obtain⟨f',fi,fd,k1,k2,k3,k4,_⟩:=e8 j o m b hh
    rw[hj]at k1;cases k1
    exact⟨fi,b,k3,by rw[hh,k2,k4]⟩
   have hpl:=run_places (P:=P) (w:=w) Fs.toList (fun f hf=>by
    obtain⟨j,hj⟩:=List.getElem?_of_mem hf
    obtain⟨fi,b,h1,_⟩:=hfs j f (by simpa using hj)
    exact⟨fi,h1⟩)
   have hplace: ∀i:Nat,structPlace fs i=(Fs.toList.map fun f=>(f.offset,((P.info? f.type).map (·.size)).getD 0)).toArray[i]? :=by
    intro i
    unfold structPlace
    simp only[List.getElem?_toArray,List.getElem?_map,Array.getElem?_toList]
    cases hj:Fs[i]? with
    |none=>
     have:fs.length≤i:=by rw[←e7];exact Array.getElem?_eq_none_iff.1 hj
     simp [List.getElem?_eq_none this]
    |some f=>
     obtain⟨fi,b,h1,h2⟩:=hfs i f hj
     simp [h2,h1]
   obtain⟨c,f1,f2⟩:=fill_rel (z2 w μ ok) hp hf
   refine Gives.pure F (x:= .agg c) ?_ rfl ⟨c.toList,by simp,f2⟩
   unfold Instr.build
   simp only[Sem.run_bind,z1,Result.andThen_ok,underlying,run_program,e3,Sem.run_pure]
   have hm:(Fs.mapM fun f=>(do pure (f.offset,←Go.sizeOf f.type):Sem (Nat×Nat))).run P w= .ok (Fs.toList.map fun f=>(f.offset,((P.info? f.type).map (·.size)).getD 0)).toArray w:=by
    conv=>lhs;rw[show Fs=Fs.toList.toArray by simp]
    rw[List.mapM_toArray]
    simp only[Sem.run_map,hpl,Result.andThen_ok]
   rw[hm]
   simp only[Result.andThen_ok]
   rw[fill_congr (fun i=>(hplace i).symm)]
   rw[f1]
   simp
  ·cases h
 ·rename_i n z eqk hT
  split at h
  ·rename_i cs hf
   cases h
   obtain⟨i,zv,e,ei,ed,_,_,e3,_,_,_,e7,e8,_⟩:=hP T _ hT
   obtain⟨zv',z1,z2⟩:=(hP T _ hT).zero (w:=w)
   obtain⟨c,f1,f2⟩:=fill_rel (z2 w μ ok) hp hf
   refine Gives.pure F (x:= .agg c) ?_ rfl ⟨c.toList,by simp,f2⟩
   unfold Instr.build
   simp only[Sem.run_bind,z1,Result.andThen_ok,underlying,run_program,e3,Sem.run_pure,Go.sizeOf,typeInfo,e7,e8,Nat.mul_one]
   rw[f1]
   simp
  ·cases h
 ·cases h
theorem fold_get (vs:List Value) (off:Nat) (cs:Array Value) (h:off+vs.length≤cs.size) (i:Nat):
 (vs.toArray.zipIdx.foldl (fun cs (p:Value×Nat)=>cs.setIfInBounds (off+p.2) p.1) cs)[i]? =if off≤i∧i<off+vs.length then vs[i-off]? else cs[i]? :=by
 have e:(vs.toArray.zipIdx.foldl (fun cs (p:Value×Nat)=>cs.setIfInBounds (off+p.2) p.1) cs).toList=cs.toList.take off++vs++cs.toList.drop (off+vs.length):=by
  rw[←Array.foldl_toList,Array.toList_zipIdx]
  simpa using foldl_set vs off 0 cs (by simpa using h)
 rw[←Array.getElem?_toList,e,←Array.getElem?_toList]
 simp only[List.append_assoc,List.getElem?_append,List.length_take,Array.length_toList,List.getElem?_take,List.getElem?_drop]
 have hm:min off cs.size=off:=by omega
 rw[hm]
 by_cases h1:i<off
 ·simp [h1,show ¬(off≤i∧i<off+vs.length) by omega]
 ·by_cases h2:i-off<vs.length
  ·simp [h1,h2,show off≤i∧i<off+vs.length by omega]
  ·simp [h1,h2,show ¬(off≤i∧i<off+vs.length) by omega]
   congr 1
   omega
theorem fold_size (vs:List Value) (off:Nat) (cs:Array Value):(vs.toArray.zipIdx.foldl (fun cs (p:Value×Nat)=>cs.setIfInBounds (off+p.2) p.1) cs).size=cs.size:=by
 rw[←Array.foldl_toList]
 have: ∀(l:List (Value×Nat)) (cs:Array Value),(l.foldl (fun cs (p:Value×Nat)=>cs.setIfInBounds (off+p.2) p.1) cs).size=cs.size:=by
  intro l
  induction l with
  |nil=>intro cs;rfl
  |cons p l ih=>intro cs;rw[List.foldl_cons,ih];simp
 exact this _ _
theorem lit_fill {t:Ty} (hT: ∀b,ok true b→ok false b) {n:Nat}: ∀ {parts:List (Nat×AV)} {vparts:List (Nat×Value)} {k:Nat} {xs:List t.D} {f:Bool} {cells:Array Value},
 PartsRel w μ ok parts vparts→litElems t k parts=some (xs,f)→k+parts.length≤n→cells.size=n*t.size→
 ∃c,Instr.fill (fun i=>some (i*t.size,t.size)) cells vparts=some c∧c.size=cells.size∧(∀i,i<k*t.size→c[i]? =cells[i]?)∧xs.length=parts.length∧
  ∀j (h:j<xs.length),∃cs,TRel w (ok f) t xs[j] cs∧ ∀q (hq:q<cs.length),c[(k+j)*t.size+q]? =some cs[q]:=by
 intro parts
 induction parts with
 |nil=>
  intro vparts k xs f cells hp hl hn hs
  cases hp
  simp only[litElems,Option.some.injEq,Prod.mk.injEq]at hl
  obtain⟨rfl,rfl⟩:=hl
  exact⟨cells,rfl,rfl,fun _ _=>rfl,rfl,fun j hj=>by simp at hj⟩
 |cons p parts ih=>
  intro vparts k xs f cells hp hl hn hs
  obtain⟨i,x⟩:=p
  cases hp with
  | @cons _ q _ vparts hpq ht=>
    obtain⟨i',v⟩:=q
    obtain⟨rfl,hx⟩:=hpq
    simp only[litElems]at hl
    cases hik:Nat.beq i k with
    |false=>simp [hik]at hl
    |true=>
     obtain rfl:i=k:=Nat.eq_of_beq_eq_true hik
     simp only[hik,cond_true]at hl
     split at hl
     ·rename_i vs hc
      split at hl
      ·rename_i y fy ys fs hd hr
       simp only[Option.some.injEq,Prod.mk.injEq]at hl
       obtain⟨rfl,rfl⟩:=hl
       have hv:=cellsOf_rel hx hc
       have htr:=decAll_rel hT hv hd
       have hlen:v.cells.toList.length=t.size:=htr.length
       have hlen':v.cells.size=t.size:=by simpa using hlen
       simp only[List.length_cons]at hn
       have hbnd:i*t.size+v.cells.toList.length≤cells.size:=by
        rw[hlen,hs,←Nat.succ_mul]
        exact Nat.mul_le_mul_right _ (by omega)
       have hg:=fold_get v.cells.toList (i*t.size) cells hbnd
       simp only[Array.toArray_toList]at hg
       have hsz:=fold_size v.cells.toList (i*t.size) cells
       simp only[Array.toArray_toList]at hsz
       obtain⟨c,c1,c2,c3,c4,c5⟩:=ih (k:=i+1) (cells:=v.cells.zipIdx.foldl (fun cs (p:Value×Nat)=>cs.setIfInBounds (i*t.size+p.2) p.1) cells) ht hr (by omega) (by rw[hsz];exact hs)
       refine⟨c, ?_,by rw[c2,hsz],fun j hj=> ?_,by simp [c4],fun j hj=> ?_⟩
       ·simp only[Instr.fill]
        rw[if_neg (by simp only[hlen',ne_eq,not_true_eq_false,Bool.or_eq_true,decide_eq_true_eq,false_or];simp;simp at hbnd;omega)]
        exact c1
       ·rw[c3 j (by rw[Nat.succ_mul];omega),hg j,if_neg (by omega)]
       ·cases j with
        |zero=>
         refine⟨v.cells.toList, ?_,fun q hq=> ?_⟩
         ·exact TRel.mono (fun _ _=>rfl) (fun b hb=>by
          cases fs with
          |true=>simpa using hb
          |false=>cases fy with
           |true=>simpa using hT b hb
           |false=>simpa using hb) htr
         ·rw[Nat.add_zero,c3 _ (by rw[Nat.succ_mul];omega),hg,if_pos (by omega)]
          simp [show i*t.size+q-i*t.size=q by omega]
        |succ j=>
         simp only[List.length_cons,Nat.succ_lt_succ_iff]at hj
         obtain⟨cs,d1,d2⟩:=c5 j hj
         refine⟨cs, ?_,fun q hq=> ?_⟩
         ·simp only[List.getElem_cons_succ]
          exact TRel.mono (fun _ _=>rfl) (fun b hb=>by
           cases fy with
           |true=>simpa using hb
           |false=>cases fs with
            |true=>simpa using hT b hb
            |false=>simpa using hb) d1
         ·rw[show i+(j+1)=i+1+j by omega];exact d2 q hq
      ·cases hl
     ·cases hl
theorem zeros_get {t:Ty} {ze:Value} (hz:ze.cells.size=t.size) (h0:0<t.size) (n i:Nat) (h:i<n):
 ((Array.range n).map (fun x=>ze.cells[x%ze.cells.size]!))[i]? =ze.cells[i%t.size]? :=by
 have hlt:i%t.size<ze.cells.size:=by rw[hz];exact Nat.mod_lt _ h0
 simp [h,hz,Array.getElem!_eq_getD,Array.getD_eq_getD_getElem?,Array.getElem?_eq_getElem hlt]
theorem lit_run (hP:TabOk P tb) {ok:OK} {μ:Locs} (hT: ∀b,ok true b→ok false b) {T n:Nat} {parts:List (Nat×AV)} {vparts:Array (Nat×Value)} (hp:PartsRel w μ ok parts vparts.toList)
 {e:TypeId} {t:Ty} {bytes:Nat} (hT0:Tab.get tb T=some (.slice e t bytes)) {xs:List t.D} {f:Bool} (hl:litElems t 0 parts=some (xs,f)) (hc1:parts.length=n) (hc2:n*t.size≤65536):
 ∃c,(Instr.buildSlice T n vparts).run P w= .ok (.slice (some ⟨w.heap.size,0,none⟩) n n) (w.alloc (.cells c e))∧c.size=n*t.size∧xs.length=n∧n≤65536∧
  ∀j (h:j<xs.length),∃cs,TRel w (ok f) t xs[j] cs∧ ∀q (hq:q<cs.length),c[(0+j)*t.size+q]? =some cs[q]:=by
 obtain⟨i,ei,ze,e1,e2,e3,e4,e5,e6,e7,e8,e9,e10,e11⟩:=hP T _ hT0
 have hzs:((Array.range (n*t.size)).map (fun x=>(if n*t.size=0 then #[]else ze.cells)[x%(if n*t.size=0 then #[]else ze.cells).size]!)).size=n*t.size:=by simp
 obtain⟨c,c1,c2,c3,c4,c5⟩:=lit_fill (n:=n) (k:=0) hT hp hl (by omega) hzs
 have hlen:xs.length=n:=by rw[c4,hc1]
 refine⟨c, ?_,by rw[c2];simp,hlen,by have:n*1≤n*t.size:=Nat.mul_le_mul_left _ e11;omega,c5⟩
 unfold Instr.buildSlice
 simp only[Sem.run_bind,underlying,run_program,Result.andThen_ok,e4,Sem.run_pure,Go.sizeOf,typeInfo,e5,e6]
 rw[if_neg (by omega)]
 by_cases h0:n*t.size=0
 ·simp only[h0,if_true,Sem.run_pure,Result.andThen_ok]at c1⊢
  simp only[Sem.run_bind,Sem.run_pure,Result.andThen_ok,c1,newRow,run_newObj]
  rfl
 ·simp only[h0,if_false]at c1⊢
  simp only[Sem.run_bind,zeroValue,typeInfo,run_program,Result.andThen_ok,e5,Sem.run_pure,e8,c1,newRow,run_newObj]
  rfl
theorem lit_gives (hP:TabOk P tb) (F:Facts mine w0 st a.tmps w μ ok) {fz:Bool} {T n:Nat} {parts:List (Nat×AV)} {vparts:Array (Nat×Value)} {v:AV} (hp:PartsRel w μ ok parts vparts.toList)
 (h:evLit fz tb T n parts=some (true,v)):Gives P mine w0 st a w μ ok (Instr.buildSlice T n vparts) v:=by
 unfold evLit at h
 split at h
 ·rename_i e t bytes hT
  split at h
  ·rename_i xs f hl
   cases hc:(Nat.beq parts.length n&&Nat.ble (n*t.size) 65536)with
   |false=>simp [hc]at h
   |true=>
    simp only[hc,cond_true,Option.some.injEq,Prod.mk.injEq,true_and]at h
    subst h
    simp only[Bool.and_eq_true]at hc
    have hc1:parts.length=n:=Nat.eq_of_beq_eq_true hc.1
    have hc2:n*t.size≤65536:=Nat.le_of_ble_eq_true hc.2
    obtain⟨i,ei,ze,e1,e2,e3,e4,e5,e6,e7,e8,e9,e10,e11⟩:=hP T _ hT
    let zeros:Array Value:=if n*t.size=0 then #[]else(Array.range (n*t.size)).map (fun x=>ze.cells[x%ze.cells.size]!)
    have hzs:((Array.range (n*t.size)).map (fun x=>(if n*t.size=0 then #[]else ze.cells)[x%(if n*t.size=0 then #[]else ze.cells).size]!)).size=n*t.size:=by simp
    obtain⟨c,c1,c2,c3,c4,c5⟩:=lit_fill (n:=n) (k:=0) F.okT hp hl (by omega) hzs
    have hlen:xs.length=n:=by rw[c4,hc1]
    have hrun:(Instr.buildSlice T n vparts).run P w= .ok (.slice (some ⟨w.heap.size,0,none⟩) n n) (w.alloc (.cells c e)):=by
     unfold Instr.buildSlice
     simp only[Sem.run_bind,underlying,run_program,Result.andThen_ok,e4,Sem.run_pure,Go.sizeOf,typeInfo,e5,e6]
     rw[if_neg (by omega)]
     by_cases h0:n*t.size=0
     ·simp only[h0,if_true,Sem.run_pure,Result.andThen_ok]at c1⊢
      simp only[Sem.run_bind,Sem.run_pure,Result.andThen_ok,c1,newRow,run_newObj]
      rfl
     ·simp only[h0,if_false]at c1⊢
      simp only[Sem.run_bind,zeroValue,typeInfo,run_program,Result.andThen_ok,e5,Sem.run_pure,e8,c1,newRow,run_newObj]
      rfl
    have hcs:c.size=n*t.size:=by rw[c2];simp
    cases fz with
    |true=>
     simp only[cond_true]
     refine⟨_,_,fun fr b=>ok fr b∨b=w.heap.size,hrun, ?_, ?_,⟨⟨rfl,rfl,rfl,by rw[alloc_size];omega,fun k hk _=>RowKit.Below.heap_alloc _ _ _ hk⟩,fun _ _ h=> .inl h,fun _ b h=>h.imp id fun e=>Nat.le_of_eq e.symm,fun h=>by cases h⟩⟩
     ·refine F.step (fun b hb=>RowKit.Below.heap_alloc _ _ _ (F.okB b hb)) (fun i b h1 h2=>RowKit.Below.heap_alloc _ _ _ (F.ownB i b h1 h2).1) (by rw[alloc_size];omega) (fun _ _ h=> .inl h)
       (fun b hb=> ?_) (fun b hb=>hb.imp (F.okT b) id) (fun b hb=> ?_) (fun i b h1 h2 h3=> ?_) ⟨fun b hb=> ?_,F.okS.glob,F.okS.gm⟩ (F.fr.alloc _)
      ·rw[alloc_size]
       rcases hb with hb|hb
       ·have:=F.okB b hb;omega
       ·omega
      ·rcases hb with hb|hb
       ·exact F.okF b hb
       ·have:=F.fr.size;omega
      ·rcases h3 with h3|h3
       ·exact(F.ownB i b h1 h2).2.2 h3
       ·have:=(F.ownB i b h1 h2).1;omega
      ·rcases hb with hb|hb
       ·exact F.okS.old b hb
       ·have:=F.fr.size;exact .inl (by omega)
     ·refine NewRel.of_av rfl ?_
      show TRel (w.alloc (.cells c e)) _ (.sl t) xs [_]∧nlRel none _
      refine⟨⟨some ⟨w.heap.size,0,none⟩,n,by rw[hlen],by omega, ?_,.inr ⟨w.heap.size,0,⟨none,rfl,fun _=>rfl⟩,fun _=> .inr rfl,fun j hj=> ?_⟩⟩,trivial⟩
      ·have:n*1≤n*t.size:=Nat.mul_le_mul_left _ e11
       omega
      ·obtain⟨cs,d1,d2⟩:=c5 j hj
       refine⟨cs,TRel.mono (fun b hb=>RowKit.Below.heap_alloc _ _ _ (F.okB b (F.ok_any hb))) (fun _ h=> .inl h) d1,fun q hq=> ?_⟩
       rw[cell_block (heap_at_new w _)]
       have:=d2 q hq
       rw[show 0+j*t.size+q=0+(j*t.size+q) by omega,Nat.zero_add]
       simpa using this
    |false=>
    simp only[cond_false]
    refine⟨_,_,ok,hrun,F.alloc _,⟨⟨some w.heap.size,n,n⟩,rfl,⟨hlen.symm,Nat.le_refl _, ?_,.inr ⟨w.heap.size,c,e,rfl,heap_at_new w _,by rw[hcs];exact Nat.le_refl _, ?_⟩⟩, ?_⟩,.alloc _ (by rintro b (h|⟨n,c,h⟩|h)<;>simp at h;exact h.1.symm)⟩
    ·show n≤_
     have:n*1≤n*t.size:=Nat.mul_le_mul_left _ e11
     omega
    ·intro j hj
     obtain⟨cs,d1,d2⟩:=c5 j hj
     exact⟨cs,TRel.mono (fun b hb=>RowKit.Below.heap_alloc _ _ _ (F.okB b (F.ok_any hb))) (fun _ h=>h) d1,fun q hq=>by simpa using d2 q hq⟩
    ·intro b hb;cases hb;exact F.freshNew _
  ·cases h
 ·cases h
theorem i64_in (n:Int) (h: -9223372036854775808≤n∧n≤9223372036854775807):IntKind.i64.wrap n=n:=by
 unfold IntKind.wrap;simp [IntKind.signed,IntKind.bits];split<;>omega
theorem make_gives (hP:TabOk P tb) (F:Facts mine w0 st a.tmps w μ ok) {T:TypeId} {l c v:AV} {lv cv':Value} (hl:AVRel w μ ok l lv) (hc:AVRel w μ ok c cv')
 (h:evMake tb T l c=some (true,v)):Gives P mine w0 st a w μ ok (Instr.makeSlice T lv cv') v:=by
 unfold evMake at h
 split at h
 ·rename_i e t bytes l c hT
  simp only[Option.some.injEq,Prod.mk.injEq,Bool.and_eq_true,decide_eq_true_eq]at h
  obtain⟨⟨⟨h0,h1⟩,h2⟩,rfl⟩:=h
  obtain⟨rfl,hl'⟩:=(hl:SVRel w μ ok (.int .i64 l) lv)
  obtain⟨rfl,hc'⟩:=(hc:SVRel w μ ok (.int .i64 c) cv')
  obtain⟨i,ei,ze,e1,e2,e3,e4,e5,e6,e7,e8,e9,e10,e11⟩:=hP T _ hT
  have hrange: ∀n:Int,IntKind.has .i64 n→IntKind.i64.wrap n=n:=by
   intro n hn
   unfold IntKind.has IntKind.min IntKind.max at hn
   simp [IntKind.signed,IntKind.bits]at hn
   exact i64_in n (by omega)
  have hcells:ze.cells.size=t.size:=by have:=(e9 w (ok true)).length;simpa using this
  have hbytes:(1:Int)≤bytes:=by omega
  have hcb:c≤281474976710656:=by
   have:1*c≤(bytes:Int)*c:=Int.mul_le_mul_of_nonneg_right hbytes (by omega)
   omega
  let cells:Array Value:=(Array.range (c.toNat*t.size)).map (fun x=>ze.cells[x%ze.cells.size]!)
  have hrun:(Instr.makeSlice T (.int .i64 l) (.int .i64 c)).run P w= .ok (.slice (some ⟨w.heap.size,0,none⟩) l.toNat c.toNat) (w.alloc (.cells cells e)):=by
   unfold Instr.makeSlice
   have ht: ∀w,(typeInfo e).run P w= .ok ei w:=by intro w;simp [typeInfo,e5]
   have hs: ∀w,(Go.sizeOf e).run P w= .ok t.size w:=by intro w;simp [Go.sizeOf,typeInfo,e5,e6]
   have hzv: ∀w,(zeroValue e).run P w= .ok ze w:=by intro w;simp [zeroValue,typeInfo,e5,e8]
   simp only[Sem.run_bind,underlying,run_program,Result.andThen_ok,e4,Sem.run_pure,asInt,asIntOf,ht,hs,hzv,e7,hrange l hl',hrange c hc']
   rw[if_neg (by
    simp only[Bool.or_eq_true,decide_eq_true_eq]
    intro hh
    rcases hh with(hh|hh)|hh
    ·rcases hh with hh|hh
     ·omega
     ·have:(2:Int)^48=281474976710656:=by decide
      omega
    ·omega
    ·omega)]
   by_cases hz:c.toNat*t.size=0
   ·have hc0:cells= #[]:=by simp [cells,hz]
    simp only[Sem.run_bind,run_askRoom,Result.andThen_ok,hs,hz,if_true,Sem.run_pure,newRow,run_newObj,hc0]
    simp
    rw[show(Array.map (fun(x:Nat)=>(default:Value)) (Array.range 0))= #[]from Array.eq_empty_of_size_eq_zero (by simp)]
   ·simp only[Sem.run_bind,run_askRoom,Result.andThen_ok,hs,hz,if_false,Sem.run_pure,newRow,run_newObj,hzv]
    rfl
  refine⟨_,_,ok,hrun,F.alloc _,⟨⟨some w.heap.size,l.toNat,c.toNat⟩,rfl,⟨by simp,by show l.toNat≤c.toNat;omega,by show c.toNat≤_;omega,
   .inr ⟨w.heap.size,cells,e,rfl,heap_at_new w _,by simp [cells],fun j hj=>⟨ze.cells.toList, ?_,fun q hq=> ?_⟩⟩⟩, ?_⟩,.alloc _ (by rintro b (h|⟨n,c,h⟩|h)<;>simp at h;exact h.1.symm)⟩
  ·simp only[List.getElem_replicate]
   exact e9 _ _
  ·simp only[List.length_replicate]at hj
   have hq':q<t.size:=by simpa [hcells]using hq
   have hlt:j*t.size+q<c.toNat*t.size:=by
    have:(j+1)*t.size≤c.toNat*t.size:=Nat.mul_le_mul_right _ (by omega)
    rw[Nat.succ_mul]at this;omega
   show cells[j*t.size+q]? =_
   rw[zeros_get hcells e11 _ _ hlt,Nat.mul_comm,Nat.mul_add_mod,Nat.mod_eq_of_lt hq']
   simp only[Array.length_toList]at hq
   simp [hq]
  ·intro b hb;cases hb;exact F.freshNew _
 ·cases h
end
theorem eqD_eq: ∀ {t:Ty} {a b:t.D},t.flat=true→eqD t a b=true→a=b
 | .int k,a,b,_,h=>by
   have h:((a:Int)==(b:Int))=true:=h
   exact eq_of_beq h
 | .bool,a,b,_,h=>by
   have h:((a:Bool)==(b:Bool))=true:=h
   exact eq_of_beq h
 | .str,a,b,_,h=>by
   have h:((a:ByteArray).toList==(b:ByteArray).toList)=true:=h
   exact ByteArray.ext (by
    have:=eq_of_beq h
    rw[ByteArray.toList_eq,ByteArray.toList_eq]at this
    exact Array.toList_inj.1 this)
 | .unit,_,_,_,_=>rfl
 | .pair s t,p,q,hf,h=>by
   simp only[eqD,Bool.and_eq_true]at h
   simp only[Ty.flat,Bool.and_eq_true]at hf
   exact Prod.ext (eqD_eq hf.1 h.1) (eqD_eq hf.2 h.2)
 | .sl t,_,_,_,h=>by cases h
theorem TRel.uniq {w w':World} {ok ok':Nat→Prop}: ∀ {t:Ty} {x:t.D} {us vs:List Value},t.flat=true→TRel w ok t x us→TRel w' ok' t x vs→us=vs
 | .int k,x,us,vs,_,h,h'=>by rw[h.1,h'.1]
 | .bool,x,us,vs,_,h,h'=>by rw[show us=_ from h,show vs=_ from h']
 | .str,x,us,vs,_,h,h'=>by rw[h.1,h'.1]
 | .unit,x,us,vs,_,h,h'=>by rw[show us=_ from h,show vs=_ from h']
 | .pair a b,x,us,vs,hf,h,h'=>by
   simp only[Ty.flat,Bool.and_eq_true]at hf
   obtain⟨u1,u2,rfl,h1,h2⟩:=h
   obtain⟨v1,v2,rfl,h1',h2'⟩:=h'
   rw[TRel.uniq hf.1 h1 h1',TRel.uniq hf.2 h2 h2']
 | .sl t,_,_,_,hf,_,_=>by cases hf
theorem TRel.flat {w w':World} {ok ok':Nat→Prop}: ∀ {t:Ty} {x:t.D} {us:List Value},t.flat=true→TRel w ok t x us→TRel w' ok' t x us
 | .int k,x,us,_,h=>h
 | .bool,x,us,_,h=>h
 | .str,x,us,_,h=>h
 | .unit,x,us,_,h=>h
 | .pair a b,x,us,hf,h=>by
   simp only[Ty.flat,Bool.and_eq_true]at hf
   obtain⟨u1,u2,e,h1,h2⟩:=h
   exact⟨u1,u2,e,TRel.flat hf.1 h1,TRel.flat hf.2 h2⟩
 | .sl t,_,_,hf,_=>by cases hf
theorem VRel.flat {w w':World} {ok ok':Nat→Prop} {t:Ty} {x:t.D} {v:Value} (hf:t.flat=true) (h:VRel w ok t x v):VRel w' ok' t x v:=by
 cases ha:t.isAgg with
 |true=>
  rw[VRel.agg ha]at h⊢
  obtain⟨us,e,h⟩:=h
  exact⟨us,e,h.flat hf⟩
 |false=>rw[VRel.one ha]at h⊢;exact h.flat hf
theorem VRel.uniq {w w':World} {ok ok':Nat→Prop} {t:Ty} {x:t.D} {u v:Value} (hf:t.flat=true) (h:VRel w ok t x u) (h':VRel w' ok' t x v):u=v:=by
 cases ha:t.isAgg with
 |true=>
  rw[VRel.agg ha]at h h'
  obtain⟨us,rfl,h⟩:=h
  obtain⟨vs,rfl,h'⟩:=h'
  rw[TRel.uniq hf h h']
 |false=>
  rw[VRel.one ha]at h h'
  simpa using TRel.uniq hf h h'
theorem sameBits_cells {w:World} {ok:Nat→Prop} {n:Nat}: ∀ {t:Ty} {x:t.D} {us:List Value},t.flat=true→TRel w ok t x us→ ∀u∈us,Instr.sameBits n u u=true
 | .int k,x,us,_,h=>by rw[h.1];simp [Instr.sameBits]
 | .bool,x,us,_,h=>by rw[show us=_ from h];simp [Instr.sameBits]
 | .str,x,us,_,h=>by rw[h.1];simp only[List.mem_singleton,forall_eq,Instr.sameBits];rw[beq_toListBytes];exact beq_self_eq_true _
 | .unit,x,us,_,h=>by rw[show us=_ from h];simp
 | .pair a b,x,us,hf,h=>by
   simp only[Ty.flat,Bool.and_eq_true]at hf
   obtain⟨u1,u2,rfl,h1,h2⟩:=h
   intro u hu
   rcases List.mem_append.1 hu with hu|hu
   ·exact sameBits_cells hf.1 h1 u hu
   ·exact sameBits_cells hf.2 h2 u hu
 | .sl t,_,_,hf,_=>by cases hf
theorem sameBits_self {w:World} {ok:Nat→Prop} {t:Ty} {x:t.D} {u:Value} (hf:t.flat=true) (h:VRel w ok t x u):Instr.sameBits 10000 u u=true:=by
 cases ha:t.isAgg with
 |true=>
  rw[VRel.agg ha]at h
  obtain⟨us,rfl,h⟩:=h
  have hall:=sameBits_cells (n:=9999) hf h
  clear h
  simp only[Instr.sameBits,List.size_toArray,beq_self_eq_true,Bool.true_and,List.all_eq_true]
  intro p hp
  have h2: ∀(l:List Value) (p:Value×Value),p∈l.zip l→p.1∈l∧p.1=p.2:=by
   intro l
   induction l with
   |nil=>intro p hp;cases hp
   |cons a l ih=>
    intro p hp
    rcases List.mem_cons.1 hp with rfl|hp
    ·exact⟨by simp,rfl⟩
    ·exact⟨by simp [(ih p hp).1],(ih p hp).2⟩
  obtain⟨a,b⟩:=h2 _ p hp
  rw[←b];exact hall _ a
 |false=>
  rw[VRel.one ha]at h
  exact sameBits_cells hf h u (by simp)
def Found (w:World) (okf:Nat→Prop) (kt vt:Ty) (x:kt.D) (es:List (kt.D×vt.D)) (arr:List MapEntry) (i0:Nat):Option (Nat×Value)→Prop
 |none=>mget x es=none∧ ∀y,mput x y es=es++[(x,y)]
 |some (i,val)=> ∃j e v k0,i=i0+j∧j<es.length∧arr[j]? =some e∧val=e.val∧mget x es=some v∧VRel w okf vt v e.val∧eqD kt x k0=true∧VRel w okf kt k0 e.key∧ ∀y,mput x y es=es.set j (x,y)
section
variable {P:Program} {w:World} {okf:Nat→Prop} {kt vt:Ty} {x:kt.D} {u:Value}
theorem Found.cons {es:List (kt.D×vt.D)} {arr:List MapEntry} {p:kt.D×vt.D} {e:MapEntry} {i0:Nat} {r:Option (Nat×Value)} (hne:eqD kt x p.1=false) (h:Found w okf kt vt x es arr (i0+1) r):
 Found w okf kt vt x (p::es) (e::arr) i0 r:=by
 match r,h with
 |none,h=>
  refine⟨by simp only[mget,hne,cond_false];exact h.1,fun y=> ?_⟩
  simp only[mput,hne,cond_false,h.2,List.cons_append]
 |some (i,val),h=>
  obtain⟨j,e',v,k0,rfl,h1,h2,h3,h4,h5,h6,h7,h8⟩:=h
  refine⟨j+1,e',v,k0,by omega,by simpa using h1,by simpa using h2,h3, ?_,h5,h6,h7,fun y=> ?_⟩
  ·simp only[mget,hne,cond_false];exact h4
  ·simp only[mput,hne,cond_false,h8,List.set_cons_succ]
theorem Found.here {es:List (kt.D×vt.D)} {arr:List MapEntry} {p:kt.D×vt.D} {e:MapEntry} {i0:Nat} (he:eqD kt x p.1=true) (h1:VRel w okf kt p.1 e.key) (h2:VRel w okf vt p.2 e.val):
 Found w okf kt vt x (p::es) (e::arr) i0 (some (i0,e.val)):=
 ⟨0,e,p.2,p.1,rfl,by simp,rfl,rfl,by simp only[mget,he,cond_true],h2,he,h1,fun y=>by simp only[mput,he,cond_true,List.set_cons_zero]⟩
theorem findKey_found {kT:TypeId} (hK:KeyOk P kT kt) (hx:VRel w okf kt x u) {es:List (kt.D×vt.D)} {arr:List MapEntry} (he:EntsRel w okf kt vt es arr) (w':World):
 ∃r,(Instr.findKey kT u arr).run P w'= .ok r w'∧Found w okf kt vt x es arr 0 r:=by
 obtain⟨hf,_,kd,hu,hK⟩:=hK
 unfold EntsRel at he
 rcases hK with hK|⟨hN,hK⟩
 ·have now: ∀(es:List (kt.D×vt.D)) (arr:List MapEntry) (i0:Nat),All2 (fun p e=>VRel w okf kt p.1 e.key∧VRel w okf vt p.2 e.val) es arr→ ∃r,Instr.findNow kd u arr i0=some r∧Found w okf kt vt x es arr i0 r:=by
   intro es arr i0 h
   induction h generalizing i0 with
   |nil=>exact⟨none,rfl,rfl,fun _=>rfl⟩
   | @cons p e es arr hp _ ih=>
     have hs:=hK w okf x p.1 u e.key hx hp.1
     cases hq:eqD kt x p.1 with
     |true=>exact⟨some (i0,e.val),by simp only[Instr.findNow,hs,hq],.here hq hp.1 hp.2⟩
     |false=>
      obtain⟨r,h1,h2⟩:=ih (i0+1)
      exact⟨r,by simp only[Instr.findNow,hs,hq];exact h1,h2.cons hq⟩
  obtain⟨r,h1,h2⟩:=now es arr 0 he
  refine⟨r, ?_,h2⟩
  simp [Instr.findKey,underlying,hu,h1]
 ·have ask: ∀(es:List (kt.D×vt.D)) (arr:List MapEntry) (i0:Nat),All2 (fun p e=>VRel w okf kt p.1 e.key∧VRel w okf vt p.2 e.val) es arr→ ∃r,(Instr.findAsking kT u arr i0).run P w'= .ok r w'∧Found w okf kt vt x es arr i0 r:=by
   intro es arr i0 h
   induction h generalizing i0 with
   |nil=>exact⟨none,by simp [Instr.findAsking],rfl,fun _=>rfl⟩
   | @cons p e es arr hp _ ih=>
     have hs:=hK w w' okf x p.1 u e.key hx hp.1
     cases hq:eqD kt x p.1 with
     |true=>exact⟨some (i0,e.val),by simp [Instr.findAsking,hs,hq],.here hq hp.1 hp.2⟩
     |false=>
      obtain⟨r,h1,h2⟩:=ih (i0+1)
      exact⟨r,by simp [Instr.findAsking,hs,hq];exact h1,h2.cons hq⟩
  obtain⟨r,h1,h2⟩:=ask es arr 0 he
  cases arr with
  |nil=>
   refine⟨r, ?_,h2⟩
   simp only[Instr.findAsking,Sem.run_pure,Result.ok.injEq,and_true]at h1
   subst h1
   simp [Instr.findKey,underlying,hu,Instr.findNow]
  |cons e arr=>
   refine⟨r, ?_,h2⟩
   simp only[Instr.findKey,underlying,Sem.run_bind,run_program,Result.andThen_ok,hu,Sem.run_pure,Instr.findNow,hN]
   exact h1
end
section
variable {P:Program} {mine:Cx} {w0:World} {st:St} {a:Act} {w:World} {μ:Locs} {ok:OK} {tb:Tab}
theorem castM_eq {k v k' v':Ty} {es:List (k.D×v.D)} {ds:List (k'.D×v'.D)} (h:Ty.castM k v k' v' es=some ds): ∃(e:k=k') (g:v=v'),(by subst e;subst g;exact es=ds):=by
 unfold Ty.castM at h
 split at h
 ·rename_i e
  split at h
  ·rename_i g
   subst e;subst g
   exact⟨rfl,rfl,by simpa using h⟩
  ·cases h
 ·cases h
theorem toD_rel (hT: ∀b,ok true b→ok false b) {t:Ty} {x:AV} {v:Value} {d:t.D} {f:Bool} (h:AVRel w μ ok x v) (hd:toD t x=some (d,f)):VRel w (ok f) t d v:=by
 unfold toD at hd
 split at hd
 ·rename_i cs ha
  obtain⟨vs,e,hh⟩:=h
  rw[VRel.agg ha]
  exact⟨vs,e,decAll_rel hT hh hd⟩
 ·rename_i y ha
  rw[VRel.one ha]
  have hj:y≠ .junk:=by
   intro e;subst e
   cases t with
   |unit=>cases ha
   |pair _ _=>cases ha
   |_=>exact absurd hd (by unfold decAll;simp [dec])
  rw[AVRel.eq1 hj]at h
  exact decAll_rel hT (.cons h .nil) hd
 ·cases hd
theorem ofD_rel {t:Ty} {f:Bool} {d:t.D} {v:Value} (h:VRel w (ok f) t d v):compRel w μ ok (t.isAgg,enc t f d) v:=by
 cases ha:t.isAgg with
 |true=>
  rw[VRel.agg ha]at h
  obtain⟨vs,e,h⟩:=h
  exact⟨vs,e,enc_rel h⟩
 |false=>
  rw[VRel.one ha]at h
  have:=enc_rel (μ:=μ) h
  cases hl:enc t f d with
  |nil=>rw[hl]at this;cases this
  |cons y l=>
   rw[hl]at this
   cases this with
   |cons h1 h2=>cases h2;exact⟨y,rfl,h1⟩
theorem mapO_of {tm:Array Value} (F:Facts mine w0 st tm w μ ok) {s:Nat} {fr:Bool} {kt vt:Ty} {es:List (kt.D×vt.D)} (h:st.ow s= .mapO fr kt vt es): ∃b,(μ s).b=some b∧MapRel w (ok fr) kt vt es b:=by
 have:=F.owns s
 rw[h]at this
 exact this
def MapIs (w:World) (okf:Nat→Prop) (kt vt:Ty) (es:List (kt.D×vt.D)) (v:Value):Prop:=
 (v= .map none∧es=[])∨ ∃b,v= .map (some b)∧MapRel w okf kt vt es b
theorem getMap_rel {tm:Array Value} (F:Facts mine w0 st tm w μ ok) {m:SV} {v:Value} {kt vt:Ty} {fr:Bool} {es:List (kt.D×vt.D)} (h:SVRel w μ ok m v) (hg:getMap st kt vt m=some (fr,es)):MapIs w (ok fr) kt vt es v:=by
 unfold getMap at hg
 split at hg
 ·cases hg;exact .inl ⟨h,rfl⟩
 ·rename_i f kt' vt' es'
  split at hg
  ·rename_i ds hc
   cases hg
   obtain⟨rfl,rfl,e⟩:=castM_eq hc
   obtain rfl:es'=es:=e
   rcases(h:SVRel0 w μ ok (.sm fr kt' vt' es') v)with h|⟨b,e,_,h⟩
   ·exact .inl h
   ·exact .inr ⟨b,e,h⟩
  ·cases hg
 ·rename_i s
  split at hg
  ·rename_i f kt' vt' es' hs
   split at hg
   ·rename_i ds hc
    cases hg
    obtain⟨rfl,rfl,e⟩:=castM_eq hc
    obtain rfl:es'=es:=e
    obtain⟨b,hb,h1⟩:=mapO_of F hs
    obtain⟨b',hb',rfl⟩:=(h:SVRel0 w μ ok (.mref s) v)
    rw[hb]at hb';cases hb'
    exact .inr ⟨b,rfl,h1⟩
   ·cases hg
  ·cases hg
 ·cases hg
theorem mgetD_some {kt vt:Ty} {x:kt.D} {es:List (kt.D×vt.D)} {v:vt.D} (h:mget x es=some v):mgetD x es=v∧mhas x es=true:=by unfold mgetD mhas;rw[h];exact⟨rfl,rfl⟩
theorem mgetD_none {kt vt:Ty} {x:kt.D} {es:List (kt.D×vt.D)} (h:mget x es=none):mgetD x es=vt.dflt∧mhas x es=false:=by unfold mgetD mhas;rw[h];exact⟨rfl,rfl⟩
theorem lookup_gives (hP:TabOk P tb) (F:Facts mine w0 st a.tmps w μ ok) {T:TypeId} {m k:AV} {mv kv:Value} {c:Bool} {v:AV} (hm:AVRel w μ ok m mv) (hk:AVRel w μ ok k kv)
 (h:evLookup tb st T m k c=some (true,v)):Gives P mine w0 st a w μ ok (Instr.lookup T mv kv c) v:=by
 unfold evLookup at h
 split at h
 ·rename_i kt vt m hT
  split at h
  ·rename_i fr es x f hg hx
   have hj:m≠ .junk:=by intro e;subst e;cases hg
   rw[AVRel.eq1 hj]at hm
   have hmap:=getMap_rel F hm hg
   have hkey:=toD_rel F.okT hk hx
   obtain⟨i,kT,vT,vi,zv,_,_,_,h4,hK,h6,h7,h8⟩:=hP T _ hT
   have hz:(zeroValue vT).run P w= .ok zv w:=by simp [zeroValue,typeInfo,h6,h7]
   have hrun: ∃val,(Instr.lookup T mv kv c).run P w= .ok (if c then .tuple #[val,.bool (mhas x es)]else val) w∧VRel w (ok fr) vt (mgetD x es) val:=by
    rcases hmap with⟨rfl,rfl⟩|⟨b,rfl,arr,clock,hb,hents⟩
    ·have hc:=hK.2.1 w w _ x kv true hkey
     obtain⟨hr0,hr1⟩:=mgetD_none (vt:=vt) (x:=x) (es:=[]) rfl
     refine⟨zv, ?_,by rw[hr0];exact h8 w _⟩
     obtain⟨r,g1,g2⟩:=findKey_found (vt:=vt) hK hkey (es:=[]) (arr:=[]) .nil w
     match r,g2 with
     |none,_=>
      rw[hr1]
      simp only[Instr.lookup,underlying,Sem.run_bind,run_program,Result.andThen_ok,h4,Sem.run_pure,Array.isEmpty_empty,hc,g1,hz]
      try (cases c<;>rfl)
     |some (i,val),g2=>obtain⟨j,_,_,_,_,hj,_⟩:=g2;simp at hj
    ·have hc:=hK.2.1 w w _ x kv arr.isEmpty hkey
     have hkey':VRel w (ok fr) kt x kv:=hkey.flat hK.1
     obtain⟨r,g1,g2⟩:=findKey_found hK hkey' hents w
     have hget:(getObj b).run P w= .ok (.map arr clock) w:=by simp [getObj,Sem.run,hb]
     match r,g2 with
     |none,g2=>
      obtain⟨hr0,hr1⟩:=mgetD_none g2.1
      refine⟨zv, ?_,by rw[hr0];exact h8 w _⟩
      rw[hr1]
      simp only[Instr.lookup,underlying,Sem.run_bind,run_program,Result.andThen_ok,h4,Sem.run_pure,hget,hc,g1,hz]
      try (cases c<;>rfl)
     |some (i,val),g2=>
      obtain⟨j,e,v0,k0,_,hj,he,rfl,hget',hv,_⟩:=g2
      obtain⟨hr0,hr1⟩:=mgetD_some hget'
      refine⟨e.val, ?_, ?_⟩
      ·rw[hr1]
       simp only[Instr.lookup,underlying,Sem.run_bind,run_program,Result.andThen_ok,h4,Sem.run_pure,hget,hc,g1]
       try (cases c<;>rfl)
      ·rw[hr0];exact hv
   obtain⟨val,hr,hv⟩:=hrun
   cases c with
   |true=>
    simp only[cond_true,Option.some.injEq,Prod.mk.injEq,true_and]at h
    subst h
    refine Gives.pure F hr rfl ⟨[val,.bool (mhas x es)],rfl,.cons (ofD_rel hv) (.cons ⟨_,rfl,rfl⟩ .nil)⟩
   |false=>
    simp only[cond_false]at h
    split at h
    ·rename_i v' hv'
     simp only[Option.some.injEq,Prod.mk.injEq,true_and]at h
     subst h
     have hcomp:=ofD_rel (μ:=μ) hv
     cases ha:vt.isAgg with
     |true=>
      rw[ha]at hcomp hv'
      obtain⟨us,e,hh⟩:=hcomp
      cases hv'
      exact Gives.pure F hr rfl ⟨us,e,hh⟩
     |false=>
      rw[ha]at hcomp hv'
      obtain⟨y,e,hy⟩:=hcomp
      rw[e]at hv'
      cases hv'
      refine Gives.pure F hr rfl ?_
      have hyj:y≠ .junk:=by
       intro hj;subst hj
       cases hvt:vt<;>(subst hvt;simp [enc,Ty.isAgg]at e ha)
      rw[AVRel.eq1 hyj];exact hy
    ·cases h
  ·cases h
 ·cases h
theorem makeMap_gives (hP:TabOk P tb) (F:Facts mine w0 st a.tmps w μ ok) {T:TypeId} {kt vt:Ty} {r:Option Value} (hT:Tab.get tb T=some (.map kt vt)) (hr: ∀v,r=some v→ ∃k n,v= .int k n):
 Gives P mine w0 st a w μ ok (Instr.makeMap T r) (.mapO true kt vt []):=by
 obtain⟨i,kT,vT,vi,zv,_,_,_,h4,_⟩:=hP T _ hT
 refine⟨.map (some w.heap.size),w.alloc (.map #[] 0),ok, ?_,F.alloc _,⟨w.heap.size,rfl,⟨#[],0,heap_at_new w _,.nil⟩,F.freshNew _⟩,Grow.alloc _ fun b hb=> ?_⟩
 ·cases r with
  |none=>simp [Instr.makeMap]
  |some v=>
   obtain⟨k,n,rfl⟩:=hr v rfl
   simp [Instr.makeMap,underlying,h4,asInt,asIntOf]
 ·rcases hb with hb|⟨n,c,hb⟩|hb
  ·cases hb
  ·cases hb
  ·simpa using hb.symm
theorem mapUpdate_run {kT vT T:TypeId} {kt vt:Ty} {b:Nat} {fr f g:Bool} {es:List (kt.D×vt.D)} {x:kt.D} {y:vt.D} {kv yv:Value} (hT: ∀b,ok true b→ok false b) (hu:P.underlying T=some (.map kT vT)) (hK:KeyOk P kT kt) (hm:MapRel w (ok fr) kt vt es b)
 (hk:VRel w (ok f) kt x kv) (hy:VRel w (ok g) vt y yv) (hb: ¬ok false b):
 ∃w1,(Instr.mapUpdate T (.map (some b)) kv yv).run P w= .ok () w1∧(∀k,k≠b→w1.heap[k]? =w.heap[k]?)∧w1.heap.size=w.heap.size∧w1.os=w.os∧w1.tape=w.tape∧w1.output=w.output∧
  MapRel w1 (ok (fr&&g)) kt vt (mput x y es) b:=by
 obtain⟨arr,clock,hb0,hents⟩:=hm
 have hc:=hK.2.1 w w _ x kv false hk
 obtain⟨r,g1,g2⟩:=findKey_found hK (hk.flat hK.1) hents w
 have hget:(getObj b).run P w= .ok (.map arr clock) w:=by simp [getObj,Sem.run,hb0]
 have hset: ∀o,(setObj b o).run P w= .ok () { w with heap:=w.heap.setIfInBounds b o}:=fun o=>by simp [setObj,Sem.run,hb0]
 have weak: ∀(f g:Bool) b,ok f b→ok (f&&g) b:=by
  intro f g b hb
  cases f with
  |true=>cases g with
   |true=>exact hb
   |false=>exact hT b hb
  |false=>exact hb
 have weak': ∀(f g:Bool) b,ok g b→ok (f&&g) b:=by
  intro f g b hb
  cases f with
  |true=>exact hb
  |false=>cases g with
   |true=>exact hT b hb
   |false=>exact hb
 have any: ∀f b,ok f b→ok false b:=fun f b h=>by cases f with
  |true=>exact hT b h
  |false=>exact h
 have hblt:b<w.heap.size:=by
  rcases Nat.lt_or_ge b w.heap.size with h|h
  ·exact h
  ·rw[Array.getElem?_eq_none (by omega)]at hb0;cases hb0
 have hother: ∀(o:Obj) (k:Nat),k≠b→(w.heap.setIfInBounds b o)[k]? =w.heap[k]? :=fun o k hk=>by rw[Array.getElem?_setIfInBounds_ne (Ne.symm hk)]
 have hself: ∀o:Obj,(w.heap.setIfInBounds b o)[b]? =some o:=fun o=>by simp [hblt]
 have hents': ∀o:Obj,All2 (fun p e=>VRel { w with heap:=w.heap.setIfInBounds b o} (ok (fr&&g)) kt p.1 e.key∧VRel { w with heap:=w.heap.setIfInBounds b o} (ok (fr&&g)) vt p.2 e.val) es arr.toList:=fun o=>
  hents.imp fun p e h=>⟨h.1.mono (fun k hk=>hother o k fun e=>hb (e▸any _ _ hk)) (weak fr g),h.2.mono (fun k hk=>hother o k fun e=>hb (e▸any _ _ hk)) (weak fr g)⟩
 have hnew: ∀o:Obj,VRel { w with heap:=w.heap.setIfInBounds b o} (ok (fr&&g)) kt x kv∧VRel { w with heap:=w.heap.setIfInBounds b o} (ok (fr&&g)) vt y yv:=fun o=>
  ⟨hk.flat hK.1,hy.mono (fun k hk=>hother o k fun e=>hb (e▸any _ _ hk)) (weak' fr g)⟩
 match r,g2 with
 |none,g2=>
  refine⟨{ w with heap:=w.heap.setIfInBounds b (.map (arr.push { key:=kv,val:=yv,born:=clock}) (clock+1))}, ?_,fun k hk=>hother (.map (arr.push { key:=kv,val:=yv,born:=clock}) (clock+1)) k hk,by simp,rfl,rfl,rfl,arr.push { key:=kv,val:=yv,born:=clock},clock+1,hself _, ?_⟩
  ·simp only[Instr.mapUpdate,underlying,Sem.run_bind,run_program,Result.andThen_ok,hu,Sem.run_pure,hget,hc,g1,hset]
  ·unfold EntsRel
   rw[g2.2,Array.toList_push]
   exact(hents' _).append (.cons (hnew _) .nil)
 |some (i,val),g2=>
  obtain⟨j,e,v0,k0,rfl,hj,he,rfl,hget',hv,hke,hk0,hput⟩:=g2
  obtain rfl:=eqD_eq hK.1 hke
  have hkk:e.key=kv:=VRel.uniq hK.1 hk0 hk
  have he':arr[j]? =some e:=by simpa using he
  have hstay:(Instr.keyThatStays kv kv).run P w= .ok kv w:=by simp [Instr.keyThatStays,sameBits_self hK.1 hk]
  refine⟨{ w with heap:=w.heap.setIfInBounds b (.map (arr.modify j fun e=> { e with key:=kv,val:=yv}) clock)}, ?_,fun k hk=>hother (.map (arr.modify j fun e=> { e with key:=kv,val:=yv}) clock) k hk,by simp,rfl,rfl,rfl,arr.modify j (fun e=> { e with key:=kv,val:=yv}),clock,hself _, ?_⟩
  ·simp only[Instr.mapUpdate,underlying,Sem.run_bind,run_program,Result.andThen_ok,hu,Sem.run_pure,hget,hc,g1,Nat.zero_add,he',Option.map_some,Option.getD_some,hkk,hstay,hset]
  ·unfold EntsRel
   rw[hput]
   have: ∀(es:List (kt.D×vt.D)) (l:List MapEntry) (j:Nat) (R:kt.D×vt.D→MapEntry→Prop) (f:MapEntry→MapEntry),All2 R es l→(∀e,R (x,y) (f e))→All2 R (es.set j (x,y)) (l.modify j f):=by
    intro es l j R f h hf
    induction h generalizing j with
    |nil=>simpa using All2.nil
    |cons h1 h2 ih=>
     cases j with
     |zero=>simpa using All2.cons (hf _) h2
     |succ j=>simpa using All2.cons h1 (ih j)
   rw[Array.toList_modify]
   exact this _ _ _ _ _ (hents' _) fun e=>hnew _
end
section
variable {P:Program} {mine:Cx} {w0:World} {st:St} {a:Act} {w:World} {μ:Locs} {ok:OK} {tb:Tab}
theorem TRel.take {okf:Nat→Prop} {t:Ty} {xs:List t.D} {A:Option Addr} {n c:Nat} (h:TRel w okf (.sl t) xs [.slice A n c]) (m:Nat) (hm:m≤xs.length):TRel w okf (.sl t) (xs.take m) [.slice A m c]:=by
 obtain⟨A',c',e,h1,h2,h3⟩:=h
 simp only[List.cons.injEq,Value.slice.injEq,and_true]at e
 obtain⟨rfl,rfl,rfl⟩:=e
 have hl:(xs.take m).length=m:=by simp;omega
 refine⟨A,c,by rw[hl],by rw[hl];omega,h2, ?_⟩
 rcases h3 with⟨rfl,rfl,rfl⟩|⟨b,o,⟨sp,rfl,hsp⟩,hb,h3⟩
 ·exact .inl ⟨rfl,by simp,rfl⟩
 ·refine .inr ⟨b,o,⟨sp,rfl,fun hne=>hsp (by intro e;simp [e]at hne)⟩,fun hne=>hb (by intro e;simp [e]at hne),fun j hj=> ?_⟩
  obtain⟨cs,g1,g2⟩:=h3 j (by omega)
  exact⟨cs,by simpa using g1,g2⟩
theorem TRel.drop {okf:Nat→Prop} {t:Ty} {xs:List t.D} {A:Option Addr} {n c:Nat} (h:TRel w okf (.sl t) xs [.slice A n c]) (m:Nat) (hm:m≤xs.length):
 TRel w okf (.sl t) (xs.drop m) [.slice (if c=m then A else A.map (·.add (m*t.size))) (n-m) (c-m)]:=by
 obtain⟨A',c',e,h1,h2,h3⟩:=h
 simp only[List.cons.injEq,Value.slice.injEq,and_true]at e
 obtain⟨rfl,rfl,rfl⟩:=e
 have hl:(xs.drop m).length=xs.length-m:=by simp
 refine⟨_,c-m,by rw[hl],by rw[hl];omega,by omega, ?_⟩
 rcases h3 with⟨rfl,rfl,rfl⟩|⟨b,o,⟨sp,rfl,hsp⟩,hb,h3⟩
 ·exact .inl ⟨by split<;>rfl,by simp,by omega⟩
 ·by_cases hx0:xs=[]
  ·subst hx0
   obtain rfl:m=0:=by simpa using hm
   exact .inr ⟨b,o,⟨sp,by simp [Addr.add],fun hne=>absurd rfl hne⟩,fun hne=>absurd rfl hne,fun j hj=>by simp at hj⟩
  obtain rfl:=hsp hx0
  by_cases hc:c=m
  ·subst hc
   have hx:xs.drop c=[]:=by rw[List.drop_eq_nil_iff];omega
   exact .inr ⟨b,o,⟨none,by simp,fun _=>rfl⟩,fun hne=>absurd hx hne,fun j hj=>by rw[hx]at hj;simp at hj⟩
  ·refine .inr ⟨b,o+m*t.size,⟨none,by simp [hc,add_none],fun _=>rfl⟩,fun hne=>hb (by intro e;simp [e]at hne),fun j hj=> ?_⟩
   obtain⟨cs,g1,g2⟩:=h3 (m+j) (by omega)
   refine⟨cs,by simpa using g1, ?_⟩
   have:o+(m+j)*t.size=o+m*t.size+j*t.size:=by rw[Nat.add_mul,Nat.add_assoc]
   rwa [this]at g2
theorem lenSl_rel (F:Facts mine w0 st a.tmps w μ ok) {v:SV} {x:Value} {n:Nat} (hv:SVRel w μ ok v x) (h:lenSl st v=some n): ∃A c,x= .slice A n c∧n≤9223372036854775807:=by
 cases v<;>simp only[lenSl]at h<;>try (cases h;done)
 ·cases h;exact⟨none,0,hv,by omega⟩
 ·rename_i fr t nl xs
  cases h
  obtain⟨A,c,e,h1,h2,_⟩:=hv.1
  simp only[List.cons.injEq,and_true]at e
  exact⟨A,c,e,by omega⟩
 ·rename_i s m
  cases m with
  |none=>
   simp only at h
   split at h
   ·rename_i fr t xs hs
    cases h
    have ho:=F.owns s
    rw[hs]at ho
    obtain⟨rfl,_⟩:=hv
    exact⟨_,_,by unfold slv;rw[Option.getD_none,ho.1],by have:=ho.1;have:=ho.2.1;have:=ho.2.2.1;omega⟩
   ·cases h
  |some m=>
   cases h
   obtain⟨rfl,hm,hb⟩:=hv
   exact⟨_,_,rfl,by have:=hm _ rfl;omega⟩
theorem len_gives (hP:TabOk P tb) (F:Facts mine w0 st a.tmps w μ ok) {ty:TypeId} {ts:List TypeId} {x:AV} {xv:Value} {v:AV} (hx:AVRel w μ ok x xv)
 (h:evBuiltin tb st .len ts [x]=some (true,v)):Gives P mine w0 st a w μ ok (Builtin.len_ ts.toArray ty #[xv]) v:=by
 unfold evBuiltin at h
 cases x with
 |one x=>
  simp only at h
  split at h
  ·rename_i T r
   split at h
   ·rename_i z hT
    split at h
    ·rename_i s
     cases h
     obtain⟨rfl,hs⟩:=(hx:SVRel w μ ok (.str s) xv)
     obtain⟨i,d,zv,_,_,h3,_,_,_,_,_,_,h9⟩:=hP T _ hT
     rw[h9 _ rfl]at h3
     refine Gives.pure F (x:= .int .i64 s.size) ?_ rfl ⟨rfl, ?_⟩
     ·simp [Builtin.len_,underlying,h3,goInt]
     ·unfold IntKind.has IntKind.min IntKind.max;simp [IntKind.signed,IntKind.bits];omega
    ·cases h
   ·rename_i e t b hT
    split at h
    ·rename_i n hn
     cases h
     have hj:x≠ .junk:=by intro e;subst e;cases hn
     obtain⟨A,c,rfl,hb⟩:=lenSl_rel F (one_of hj hx) hn
     obtain⟨i,ei,ze,_,_,_,h4,_⟩:=hP T _ hT
     refine Gives.pure F (x:= .int .i64 n) ?_ rfl ⟨rfl, ?_⟩
     ·simp [Builtin.len_,underlying,h4,goInt]
     ·unfold IntKind.has IntKind.min IntKind.max;simp [IntKind.signed,IntKind.bits];omega
    ·cases h
   ·rename_i kt vt hT
    split at h
    ·rename_i fr es hg
     simp only[Option.some.injEq,Prod.mk.injEq,decide_eq_true_eq]at h
     obtain⟨hlen,rfl⟩:=h
     have hj:x≠ .junk:=by intro e;subst e;cases hg
     have hm:=getMap_rel F (one_of hj hx) hg
     obtain⟨i,kT,vT,vi,zv,_,_,_,h4,_⟩:=hP T _ hT
     refine Gives.pure F (x:= .int .i64 es.length) ?_ rfl ⟨rfl, ?_⟩
     ·rcases hm with⟨rfl,rfl⟩|⟨b,rfl,arr,clock,hb,hents⟩
      ·simp [Builtin.len_,underlying,h4,goInt]
      ·have:=hents.length
       simp at this
       simp [Builtin.len_,underlying,h4,goInt,getObj,Sem.run,hb,this]
     ·unfold IntKind.has IntKind.min IntKind.max;simp [IntKind.signed,IntKind.bits];omega
    ·cases h
   ·cases h
  ·cases h
 |agg cs=>cases h
 |tup l=>cases h
 |own cs=>cases h
 |arr f t xs=>cases h
 |mapO f kt vt es=>cases h
 |gho o=>cases h
theorem min_gives (F:Facts mine w0 st a.tmps w μ ok) {ty:TypeId} {ts:Array TypeId} {k k':IntKind} {m n:Int} {xv yv:Value} (hx:AVRel w μ ok (.one (.int k m)) xv) (hy:AVRel w μ ok (.one (.int k' n)) yv)
 (hk:ikEq k k'=true):Gives P mine w0 st a w μ ok (Builtin.min_ ts ty #[xv,yv]) (.one (.int k (minI m n))):=by
 obtain rfl:=ikEq_eq hk
 obtain⟨rfl,h1⟩:=(hx:SVRel w μ ok (.int k m) xv)
 obtain⟨rfl,h2⟩:=(hy:SVRel w μ ok (.int k n) yv)
 refine Gives.pure F (x:= .int k (minI m n)) ?_ rfl ⟨rfl, ?_⟩
 ·simp [Builtin.min_,Builtin.min2,minI]
 ·unfold minI;split<;>assumption
theorem max_gives (F:Facts mine w0 st a.tmps w μ ok) {ty:TypeId} {ts:Array TypeId} {k k':IntKind} {m n:Int} {xv yv:Value} (hx:AVRel w μ ok (.one (.int k m)) xv) (hy:AVRel w μ ok (.one (.int k' n)) yv)
 (hk:ikEq k k'=true):Gives P mine w0 st a w μ ok (Builtin.max_ ts ty #[xv,yv]) (.one (.int k (maxI m n))):=by
 obtain rfl:=ikEq_eq hk
 obtain⟨rfl,h1⟩:=(hx:SVRel w μ ok (.int k m) xv)
 obtain⟨rfl,h2⟩:=(hy:SVRel w μ ok (.int k n) yv)
 refine Gives.pure F (x:= .int k (maxI m n)) ?_ rfl ⟨rfl, ?_⟩
 ·simp [Builtin.max_,Builtin.max2,maxI]
 ·unfold maxI;split<;>assumption
def OptRel (w:World) (μ:Locs) (ok:OK):Option AV→Option Value→Prop
 |none,none=>True
 |some x,some v=>AVRel w μ ok x v
 |_,_=>False
theorem optI_rel {x:Option AV} {v:Option Value} {r:Option Int} (h:optI x=some r) (hx:OptRel w μ ok x v):(r=none∧v=none)∨ ∃k n,r=some n∧v=some (.int k n):=by
 unfold optI at h
 split at h
 ·cases h;cases v with
  |none=>exact .inl ⟨rfl,rfl⟩
  |some v=>exact hx.elim
 ·rename_i k n
  cases h;cases v with
  |none=>exact hx.elim
  |some v=>
   obtain⟨rfl,_⟩:=(hx:SVRel w μ ok (.int k n) v)
   exact .inr ⟨k,n,rfl,rfl⟩
 ·cases h
theorem slice_gives (hP:TabOk P tb) (F:Facts mine w0 st a.tmps w μ ok) {T:TypeId} {x:AV} {xv:Value} {lo hi mx:Option AV} {lov hiv mxv:Option Value} {v:AV} (hx:AVRel w μ ok x xv)
 (hlo:OptRel w μ ok lo lov) (hhi:OptRel w μ ok hi hiv) (hmx:mx=none→mxv=none) (h:evSlice tb st T x lo hi mx=some (true,v)):Gives P mine w0 st a w μ ok (Instr.sliceAt T xv lov hiv mxv) v:=by
 unfold evSlice at h
 split at h
 ·rename_i e t bytes fr t' nl xs lo' hi' hT hlo' hhi'
  obtain rfl:=hmx rfl
  cases hz:Nat.beq t.size t'.size with
  |false=>simp [hz]at h
  |true=>
   have hz':t.size=t'.size:=Nat.eq_of_beq_eq_true hz
   simp only[hz,cond_true]at h
   obtain⟨i,ei,ze,_,_,_,h4,h5,h6,_⟩:=hP T _ hT
   have hx':SVRel w μ ok (.sl fr t' nl xs) xv:=hx
   have ht:=hx'.1
   obtain⟨A,c,e',g1,g2,g3⟩:=ht
   simp only[List.cons.injEq,and_true]at e'
   subst e'
   have ht:=hx'.1
   have h6':ei.size=t'.size:=by rw[h6,hz']
   rcases optI_rel hlo' hlo with⟨rfl,rfl⟩|⟨kl,l,rfl,rfl⟩<;>rcases optI_rel hhi' hhi with⟨rfl,rfl⟩|⟨kh,hh,rfl,rfl⟩
   ·cases h
   ·simp only[Option.some.injEq,Prod.mk.injEq,Bool.and_eq_true,decide_eq_true_eq]at h
    obtain⟨⟨k1,k2⟩,rfl⟩:=h
    refine Gives.pure F (x:= .slice A hh.toNat c) ?_ rfl ⟨ht.take hh.toNat (by omega),trivial⟩
    have:hh≤(c:Int):=by omega
    simp [Instr.sliceAt,underlying,h4,Instr.slice,Instr.sliceBounds,Instr.sliceBound,asIntOf,k1,this,Go.sizeOf,typeInfo,h5]
    cases A<;>simp [Addr.add]
   ·simp only[Option.some.injEq,Prod.mk.injEq,Bool.and_eq_true,decide_eq_true_eq]at h
    obtain⟨⟨k1,k2⟩,rfl⟩:=h
    refine Gives.pure F (x:= .slice (if c=l.toNat then A else A.map (·.add (l.toNat*t'.size))) (xs.length-l.toNat) (c-l.toNat)) ?_ rfl ⟨ht.drop l.toNat (by omega),trivial⟩
    simp [Instr.sliceAt,underlying,h4,Instr.slice,Instr.sliceBounds,Instr.sliceBound,asIntOf,k1,k2,Go.sizeOf,typeInfo,h5,h6']
   ·simp only[Option.some.injEq,Prod.mk.injEq,Bool.and_eq_true,decide_eq_true_eq]at h
    obtain⟨⟨⟨k1,k2⟩,k3⟩,rfl⟩:=h
    have ht2:=(ht.take hh.toNat (by omega)).drop l.toNat (by simp;omega)
    refine Gives.pure F (x:= .slice (if c=l.toNat then A else A.map (·.add (l.toNat*t'.size))) (hh.toNat-l.toNat) (c-l.toNat)) ?_ rfl ⟨ht2,trivial⟩
    have h1:0≤hh:=by omega
    have h2:hh≤(c:Int):=by omega
    have h3:l≤max hh 0:=by omega
    simp [Instr.sliceAt,underlying,h4,Instr.slice,Instr.sliceBounds,Instr.sliceBound,asIntOf,k1,h1,h2,h3,Go.sizeOf,typeInfo,h5,h6']
 ·rename_i e t bytes s hh hT hlo' hhi'
  obtain rfl:=hmx rfl
  obtain⟨i,ei,ze,_,_,_,h4,h5,h6,_⟩:=hP T _ hT
  rcases optI_rel hlo' hlo with⟨_,rfl⟩|⟨kl,l,e1,_⟩
  case inr=>cases e1
  rcases optI_rel hhi' hhi with⟨e1,_⟩|⟨kh,hh',e1,rfl⟩
  case inl=>cases e1
  cases e1
  split at h
  ·rename_i fr t' xs hs
   simp only[Option.some.injEq,Prod.mk.injEq,Bool.and_eq_true,decide_eq_true_eq]at h
   obtain⟨⟨k1,k2⟩,rfl⟩:=h
   have hx':SVRel w μ ok (.hot s none) xv:=hx
   obtain⟨rfl,_,hb⟩:=hx'
   have ho:=F.owns s
   rw[hs]at ho
   refine Gives.pure F (x:=slv (μ s) (some hh.toNat)) ?_ rfl ⟨rfl,(by intro m hm;cases hm;have:=ho.1;omega),hb⟩
   have h2:hh≤((μ s).cap:Int):=by have:=ho.1;have:=ho.2.1;omega
   simp [Instr.sliceAt,underlying,h4,Instr.slice,Instr.sliceBounds,Instr.sliceBound,asIntOf,k1,h2,Go.sizeOf,typeInfo,h5,slv]
   cases (μ s).b<;>simp [Addr.add]
  ·cases h
 ·rename_i e t bytes s l hi' hT hlo' hhi'
  obtain rfl:=hmx rfl
  obtain⟨i,ei,ze,_,_,_,h4,h5,h6,_⟩:=hP T _ hT
  rcases optI_rel hlo' hlo with⟨e1,_⟩|⟨kl,l',e1,rfl⟩
  case inl=>cases e1
  cases e1
  split at h
  ·rename_i fr t' xs hs
   cases hz:Nat.beq t.size t'.size with
   |false=>rw[hz]at h;cases h
   |true=>
   have hz':t.size=t'.size:=Nat.eq_of_beq_eq_true hz
   rw[hz]at h
   simp only[cond_true,Option.some.injEq,Prod.mk.injEq,Bool.and_eq_true,decide_eq_true_eq]at h
   obtain⟨⟨⟨k1,k2⟩,k3⟩,rfl⟩:=h
   have hx':SVRel w μ ok (.hot s none) xv:=hx
   obtain⟨rfl,_,hb⟩:=hx'
   have ho:=F.owns s
   rw[hs]at ho
   obtain⟨g1,g2,g3,g4⟩:=(ho:ArrRel w (ok fr) (μ s) t' xs)
   have h6':ei.size=t'.size:=by rw[h6,hz']
   rcases g4 with⟨_,hxs,_⟩|⟨b,cur,E,j1,j2,j3,j4⟩
   ·subst hxs
    simp at k2 k3
    omega
   ·have hc: ¬(μ s).cap=l.toNat:=by omega
    rcases optI_rel hhi' hhi with⟨e1,rfl⟩|⟨kh,hh,e1,rfl⟩
    ·subst e1
     simp only[Option.getD_none]at k2 k3⊢
     refine Gives.pure F (x:= .slice (some ⟨b,l.toNat*t'.size,none⟩) (xs.length-l.toNat) ((μ s).cap-l.toNat)) ?_ rfl ⟨b,j1,by simp,by omega,by omega⟩
     have h3:l≤(xs.length:Int):=by omega
     simp [Instr.sliceAt,underlying,h4,Instr.slice,Instr.sliceBounds,Instr.sliceBound,asIntOf,k1,h3,Go.sizeOf,typeInfo,h5,h6',slv,j1,g1,hc,add_none]
    ·subst e1
     simp only[Option.getD_some]at k2 k3⊢
     refine Gives.pure F (x:= .slice (some ⟨b,l.toNat*t'.size,none⟩) (hh.toNat-l.toNat) ((μ s).cap-l.toNat)) ?_ rfl ⟨b,j1,rfl,by omega,by omega⟩
     have h1:0≤hh:=by omega
     have h2:hh≤((μ s).cap:Int):=by omega
     have h3:l≤max hh 0:=by omega
     simp [Instr.sliceAt,underlying,h4,Instr.slice,Instr.sliceBounds,Instr.sliceBound,asIntOf,k1,h1,h2,h3,Go.sizeOf,typeInfo,h5,h6',slv,j1,g1,hc,add_none]
  ·cases h
 ·rename_i z s lo' hi' hT hlo' hhi'
  obtain rfl:=hmx rfl
  obtain⟨i,d,zv,_,_,g3,_,_,_,_,_,_,g7⟩:=hP T _ hT
  rw[g7 _ rfl]at g3
  obtain⟨rfl,hsz⟩:=(hx:SVRel w μ ok (.str s) xv)
  simp only[Option.some.injEq,Prod.mk.injEq,Bool.and_eq_true,decide_eq_true_eq]at h
  obtain⟨⟨⟨k1,k2⟩,k3⟩,rfl⟩:=h
  have hsz':(s.extract (lo'.getD 0).toNat (hi'.getD (s.size:Int)).toNat).size≤9223372036854775807:=by rw[ByteArray.size_extract];omega
  refine Gives.pure F (x:= .string (s.extract (lo'.getD 0).toNat (hi'.getD (s.size:Int)).toNat)) ?_ rfl ⟨rfl,hsz'⟩
  rcases optI_rel hlo' hlo with⟨e1,rfl⟩|⟨kl,l,e1,rfl⟩<;>rcases optI_rel hhi' hhi with⟨e2,rfl⟩|⟨kh,hh,e2,rfl⟩<;>subst e1<;>subst e2<;>simp only[Option.getD_none,Option.getD_some]at k1 k2 k3⊢
  ·simp [Instr.sliceAt,underlying,g3,Instr.slice,Instr.sliceBounds,Instr.sliceBound,asIntOf]
  ·simp [Instr.sliceAt,underlying,g3,Instr.slice,Instr.sliceBounds,Instr.sliceBound,asIntOf,k2,k3]
  ·simp [Instr.sliceAt,underlying,g3,Instr.slice,Instr.sliceBounds,Instr.sliceBound,asIntOf,k1,k2]
  ·have k4:0≤hh:=by omega
   have k5:l≤max hh 0:=by omega
   simp [Instr.sliceAt,underlying,g3,Instr.slice,Instr.sliceBounds,Instr.sliceBound,asIntOf,k1,k3,k4,k5]
 ·cases h
theorem tyOf_rel {cs:List SV} {vs:List Value} {f:Bool} {t:Ty} {x:t.D} (hT: ∀b,ok true b→ok false b) (h:All2 (SVRel w μ ok) cs vs) (ht:tyOf cs=some (f,⟨t,x⟩)):TRel w (ok f) t x vs:=by
 have up: ∀(f g:Bool) b,ok (f&&g) b→ok (f&&g) b:=fun _ _ _ h=>h
 have weak: ∀(f g:Bool) b,(g=true→f=true)→ok f b→ok g b:=by
  intro f g b hg hb
  cases g with
  |true=>rw[hg rfl]at hb;exact hb
  |false=>cases f with
   |true=>exact hT b hb
   |false=>exact hb
 induction cs generalizing vs f t x with
 |nil=>simp [tyOf]at ht
 |cons c cs ih=>
  cases h with
  | @cons _ v _ vs hv hvs=>
    cases cs with
    |nil=>
     cases hvs
     cases c<;>simp only[tyOf]at ht<;>try (cases ht;done)
     ·cases ht;exact(congrArg (fun z=>[z]) (show v=_ from hv))
     ·cases ht;obtain⟨rfl,h2⟩:=hv;exact⟨rfl,h2⟩
     ·cases ht;obtain⟨rfl,h2⟩:=hv;exact⟨rfl,h2⟩
     ·cases ht;exact hv.1
    |cons c2 cs=>
     cases c<;>simp only[tyOf]at ht<;>try (cases ht;done)
     all_goals
      split at ht
      ·rename_i f' t' x' he
       have hr:=ih hvs he
       cases ht
       first
        |(refine⟨[v],vs,rfl, ?_,hr⟩
          first
           |exact(congrArg (fun z=>[z]) (show v=_ from hv))
           |(obtain⟨rfl,h2⟩:=hv;exact⟨rfl,h2⟩))
        |(refine⟨[v],vs,rfl, ?_, ?_⟩
          ·exact TRel.mono (fun _ _=>rfl) (fun b hb=>weak _ _ b (by intro e;simp at e;exact e.1) hb) hv.1
          ·exact TRel.mono (fun _ _=>rfl) (fun b hb=>weak _ _ b (by intro e;simp at e;exact e.2) hb) hr)
      ·cases ht
theorem capOf_rel (hT: ∀b,ok true b→ok false b) {x:AV} {v:Value} {c:Cap} (hx:AVRel w μ ok x v) (h:capOf x=some c):CapRel w μ ok c v:=by
 unfold capOf at h
 split at h
 ·cases h;exact hx
 ·cases h
  obtain⟨b,o,cs,e,h1,h2,h3⟩:=(hx:SVRel w μ ok (.rp _ _ _ 0) v)
  exact⟨b,o,cs,e,h1,h2,h3⟩
 ·rename_i y _ _
  split at h
  ·rename_i f t z he
   cases h
   have hj:y≠ .junk:=by intro e;subst e;simp [tyOf]at he
   have hy:=one_of hj hx
   unfold CapRel
   cases y<;>simp only[tyOf]at he<;>try (cases he;done)
   all_goals cases he
   ·exact hy
   ·exact hy
   ·exact hy
   ·exact⟨hy.1,trivial⟩
  ·cases h
 ·cases h
theorem capsOf_rel (hT: ∀b,ok true b→ok false b) {l:List AV} {vs:List Value} {cs:List Cap} (h:All2 (AVRel w μ ok) l vs) (hc:capsOf l=some cs):All2 (CapRel w μ ok) cs vs:=by
 induction h generalizing cs with
 |nil=>simp only[capsOf,Option.some.injEq]at hc;subst hc;exact .nil
 |cons hx _ ih=>
  simp only[capsOf]at hc
  split at hc
  ·rename_i c cs' h1 h2
   cases hc
   exact .cons (capOf_rel hT hx h1) (ih h2)
  ·cases hc
theorem capVal_rel {c:Cap} {v:Value} (h:CapRel w μ ok c v):AVRel w μ ok (capVal c) v:=by
 unfold CapRel at h
 cases c with
 |ref s off=>exact h
 |ptrD f t x=>exact h
 |valD f t x=>
  have hne: ∀y∈enc t f x,(y≠ .junk)∧ ∀f c,y≠ .fn f c:=by
   clear h
   intro y hy
   induction t with
   |int k=>simp [enc]at hy;subst hy;simp
   |bool=>simp [enc]at hy;subst hy;simp
   |str=>simp [enc]at hy;subst hy;simp
   |unit=>simp [enc]at hy
   |sl t _=>simp [enc]at hy;subst hy;simp
   |pair a b iha ihb=>
    rcases List.mem_append.1 hy with hy|hy
    ·exact iha _ hy
    ·exact ihb _ hy
  simp only[capVal]at*
  split at h
  ·rename_i y he
   have hy:=hne y (by simp [he])
   rw[AVRel.eq1 hy.1,SVRel.eq0 hy.2]
   exact h
  ·rename_i hn
   obtain⟨vs,e,hh⟩:=h
   have:AVRel w μ ok (.agg (enc t f x)) v:=⟨vs,e,hh.imp_mem fun a b ha hab=>by rw[SVRel.eq0 (hne a ha).2];exact hab⟩
   exact this
end
end Go.AM
