import Derived.Test.YthnonmlhgafalaaGreatZAmDefs
set_option linter.unusedVariables false
set_option linter.unusedSimpArgs false
namespace Go.AM
inductive All2 {α β:Type} (R:α→β→Prop):List α→List β→Prop where
 |nil:All2 R [] []
 |cons {a:α} {b:β} {l:List α} {m:List β} (h:R a b) (t:All2 R l m):All2 R (a::l) (b::m)
theorem All2.imp {α β:Type} {R S:α→β→Prop} (hRS: ∀a b,R a b→S a b) {l:List α} {m:List β} (h:All2 R l m):All2 S l m:=by
 induction h with
 |nil=>exact .nil
 |cons h _ ih=>exact .cons (hRS _ _ h) ih
theorem All2.imp_mem {α β:Type} {R S:α→β→Prop} {l:List α} {m:List β} (h:All2 R l m) (hRS: ∀a b,a∈l→R a b→S a b):All2 S l m:=by
 induction h with
 |nil=>exact .nil
 |cons h _ ih=>exact .cons (hRS _ _ (by simp) h) (ih fun a b ha=>hRS a b (by simp [ha]))
theorem All2.length {α β:Type} {R:α→β→Prop} {l:List α} {m:List β} (h:All2 R l m):l.length=m.length:=by
 induction h with
 |nil=>rfl
 |cons _ _ ih=>simp [ih]
theorem All2.append {α β:Type} {R:α→β→Prop} {l l':List α} {m m':List β} (h:All2 R l m) (h':All2 R l' m'):All2 R (l++l') (m++m'):=by
 induction h with
 |nil=>exact h'
 |cons h _ ih=>exact .cons h ih
theorem All2.drop {α β:Type} {R:α→β→Prop} {l:List α} {m:List β} (h:All2 R l m): ∀n,All2 R (l.drop n) (m.drop n):=by
 induction h with
 |nil=>intro n;simpa using All2.nil
 |cons h t ih=>
  intro n
  cases n with
  |zero=>exact .cons h t
  |succ n=>simpa using ih n
theorem All2.take {α β:Type} {R:α→β→Prop} {l:List α} {m:List β} (h:All2 R l m): ∀n,All2 R (l.take n) (m.take n):=by
 induction h with
 |nil=>intro n;simpa using All2.nil
 |cons h t ih=>
  intro n
  cases n with
  |zero=>exact .nil
  |succ n=>simpa using All2.cons h (ih n)
theorem All2.get {α β:Type} {R:α→β→Prop} {l:List α} {m:List β} (h:All2 R l m): ∀(i:Nat) (a:α),l[i]? =some a→ ∃b,m[i]? =some b∧R a b:=by
 induction h with
 |nil=>intro i a hi;simp at hi
 |cons h t ih=>
  intro i a hi
  cases i with
  |zero=>
   simp at hi
   subst hi
   exact⟨_,rfl,h⟩
  |succ i=>simpa using ih i a (by simpa using hi)
theorem All2.split {α β:Type} {R:α→β→Prop} {l l':List α}: ∀ {m:List β},All2 R (l++l') m→ ∃u v,m=u++v∧All2 R l u∧All2 R l' v:=by
 induction l with
 |nil=>intro m h;exact⟨[],m,rfl,.nil,h⟩
 |cons a l ih=>
  intro m h
  cases h with
  |cons h t=>
   obtain⟨u,v,rfl,h1,h2⟩:=ih t
   exact⟨_::u,v,rfl,.cons h h1,h2⟩
theorem All2.map_left {α α' β:Type} {R:α→β→Prop} {S:α'→β→Prop} (f:α→α') (hf: ∀a b,R a b→S (f a) b) {l:List α} {m:List β} (h:All2 R l m):All2 S (l.map f) m:=by
 induction h with
 |nil=>exact .nil
 |cons h _ ih=>exact .cons (hf _ _ h) ih
def Cells (w:World) (b o:Nat) (cs:List Value):Prop:= ∀q (h:q<cs.length),w.cell? ⟨b,o+q,none⟩=some cs[q]
def TRel (w:World) (ok:Nat→Prop):(t:Ty)→t.D→List Value→Prop
 | .int k,n,vs=>vs=[.int k n]∧k.has n
 | .bool,b,vs=>vs=[.bool b]
 | .str,s,vs=>vs=[.string s]∧s.size≤9223372036854775807
 | .unit,_,vs=>vs=[]
 | .pair a b,p,vs=> ∃u v,vs=u++v∧TRel w ok a p.1 u∧TRel w ok b p.2 v
 | .sl t,xs,vs=> ∃A c,vs=[.slice A xs.length c]∧xs.length≤c∧c≤9223372036854775807∧
  ((A=none∧xs=[]∧c=0)∨
    ∃b o,(∃sp,A=some ⟨b,o,sp⟩∧(xs≠[]→sp=none))∧(xs≠[]→ok b)∧ ∀j (h:j<xs.length),∃cs,TRel w ok t xs[j] cs∧Cells w b (o+j*t.size) cs)
theorem TRel.length {w:World} {ok:Nat→Prop}: ∀ {t:Ty} {x:t.D} {vs:List Value},TRel w ok t x vs→vs.length=t.size
 | .int k,x,vs,h=>by rw[h.1];rfl
 | .bool,x,vs,h=>by rw[show vs=_ from h];rfl
 | .str,x,vs,h=>by rw[h.1];rfl
 | .unit,x,vs,h=>by rw[show vs=_ from h];rfl
 | .pair a b,x,vs,h=>by
   obtain⟨u,v,rfl,h1,h2⟩:=h
   rw[List.length_append,TRel.length h1,TRel.length h2];rfl
 | .sl t,x,vs,h=>by
   obtain⟨A,c,rfl,_⟩:=h;rfl
theorem TRel.one {w:World} {ok:Nat→Prop}: ∀ {t:Ty} {x:t.D} {vs:List Value},TRel w ok t x vs→ ∀v∈vs,v.oneCell'=true
 | .int k,x,vs,h=>by rw[h.1];simp [Value.oneCell']
 | .bool,x,vs,h=>by rw[show vs=_ from h];simp [Value.oneCell']
 | .str,x,vs,h=>by rw[h.1];simp [Value.oneCell']
 | .unit,x,vs,h=>by rw[show vs=_ from h];simp
 | .pair a b,x,vs,h=>by
   obtain⟨u,v,rfl,h1,h2⟩:=h
   intro z hz
   rcases List.mem_append.1 hz with hz|hz
   ·exact TRel.one h1 z hz
   ·exact TRel.one h2 z hz
 | .sl t,x,vs,h=>by
   obtain⟨A,c,rfl,_⟩:=h;simp [Value.oneCell']
theorem cell_same {w w':World} {b:Nat} (h:w'.heap[b]? =w.heap[b]?) (o:Nat):w'.cell? ⟨b,o,none⟩=w.cell? ⟨b,o,none⟩:=by
 simp only[World.cell?,h]
theorem Cells.same {w w':World} {b o:Nat} {cs:List Value} (h:w'.heap[b]? =w.heap[b]?) (hc:Cells w b o cs):Cells w' b o cs:=
 fun q hq=>(cell_same h _).trans (hc q hq)
theorem TRel.mono {w w':World} {ok ok':Nat→Prop} (hw: ∀b,ok b→w'.heap[b]? =w.heap[b]?) (hok: ∀b,ok b→ok' b):
 ∀ {t:Ty} {x:t.D} {vs:List Value},TRel w ok t x vs→TRel w' ok' t x vs
 | .int k,x,vs,h=>h
 | .bool,x,vs,h=>h
 | .str,x,vs,h=>h
 | .unit,x,vs,h=>h
 | .pair a b,x,vs,h=>by
   obtain⟨u,v,e,h1,h2⟩:=h
   exact⟨u,v,e,TRel.mono hw hok h1,TRel.mono hw hok h2⟩
 | .sl t,xs,vs,h=>by
   obtain⟨A,c,e,hc,hm,hh⟩:=h
   refine⟨A,c,e,hc,hm, ?_⟩
   rcases hh with hh|⟨b,o,e1,hb,hj⟩
   ·exact .inl hh
   ·refine .inr ⟨b,o,e1,fun hx=>hok _ (hb hx),fun j hlt=> ?_⟩
    obtain⟨cs,ht,hcs⟩:=hj j hlt
    exact⟨cs,TRel.mono hw hok ht,hcs.same (hw b (hb (by intro e0;simp [e0]at hlt)))⟩
structure Loc where
 b:Option Nat
 len:Nat
 cap:Nat
abbrev Locs:=Nat→Loc
abbrev OK:=Bool→Nat→Prop
def slv (l:Loc) (n:Option Nat):Value:= .slice (l.b.map fun b=>⟨b,0,none⟩) (n.getD l.len) l.cap
def RpRel (w:World) (ok:Nat→Prop) (t:Ty) (x:t.D) (off:Nat) (v:Value):Prop:=
 ∃b o cs,v= .pointer (some ⟨b,o+off,none⟩)∧ok b∧TRel w ok t x cs∧Cells w b o cs
def nlRel:Option Bool→Value→Prop
 |none,_=>True
 |some true,v=>v= .slice none 0 0
 |some false,v=> ∃a n c,v= .slice (some a) n c
def VRel (w:World) (okf:Nat→Prop) (t:Ty) (x:t.D) (v:Value):Prop:=
 match t.isAgg with
 |true=> ∃vs:List Value,v= .agg vs.toArray∧TRel w okf t x vs
 |false=>TRel w okf t x [v]
theorem VRel.agg {w:World} {okf:Nat→Prop} {t:Ty} {x:t.D} {v:Value} (h:t.isAgg=true):VRel w okf t x v= ∃vs:List Value,v= .agg vs.toArray∧TRel w okf t x vs:=by unfold VRel;rw[h]
theorem VRel.one {w:World} {okf:Nat→Prop} {t:Ty} {x:t.D} {v:Value} (h:t.isAgg=false):VRel w okf t x v=TRel w okf t x [v]:=by unfold VRel;rw[h]
theorem VRel.mono {w w':World} {ok ok':Nat→Prop} (hw: ∀b,ok b→w'.heap[b]? =w.heap[b]?) (hok: ∀b,ok b→ok' b) {t:Ty} {x:t.D} {v:Value} (h:VRel w ok t x v):VRel w' ok' t x v:=by
 cases ha:t.isAgg with
 |true=>rw[VRel.agg ha]at h⊢;obtain⟨vs,e,h⟩:=h;exact⟨vs,e,TRel.mono hw hok h⟩
 |false=>rw[VRel.one ha]at h⊢;exact TRel.mono hw hok h
def EntsRel (w:World) (okf:Nat→Prop) (kt vt:Ty) (es:List (kt.D×vt.D)) (arr:List MapEntry):Prop:=
 All2 (fun p e=>VRel w okf kt p.1 e.key∧VRel w okf vt p.2 e.val) es arr
def MapRel (w:World) (okf:Nat→Prop) (kt vt:Ty) (es:List (kt.D×vt.D)) (b:Nat):Prop:=
 ∃arr clock,w.heap[b]? =some (.map arr clock)∧EntsRel w okf kt vt es arr.toList
theorem MapRel.mono {w w':World} {ok ok':Nat→Prop} (hw: ∀b,ok b→w'.heap[b]? =w.heap[b]?) (hok: ∀b,ok b→ok' b) {kt vt:Ty} {es:List (kt.D×vt.D)} {b:Nat} (hb:w'.heap[b]? =w.heap[b]?) (h:MapRel w ok kt vt es b):MapRel w' ok' kt vt es b:=by
 obtain⟨arr,clock,h1,h2⟩:=h
 exact⟨arr,clock,hb.trans h1,h2.imp fun p e h=>⟨h.1.mono hw hok,h.2.mono hw hok⟩⟩
def SVRel0 (w:World) (μ:Locs) (ok:OK):SV→Value→Prop
 | .junk,v=>v.oneCell'=true
 | .bool b,v=>v= .bool b
 | .int k n,v=>v= .int k n∧k.has n
 | .str s,v=>v= .string s∧s.size≤9223372036854775807
 | .nilp,v=>v= .pointer none
 | .nils,v=>v= .slice none 0 0
 | .nilf,v=>v= .nilFunc
 | .nilm,v=>v= .map none
 | .sm fr kt vt es,v=>(v= .map none∧es=[])∨ ∃b,v= .map (some b)∧ok fr b∧MapRel w (ok fr) kt vt es b
 | .mref s,v=> ∃b,(μ s).b=some b∧v= .map (some b)
 | .sl fr t nl xs,v=>TRel w (ok fr) (.sl t) xs [v]∧nlRel nl v
 | .ptr s off,v=> ∃b,(μ s).b=some b∧v= .pointer (some ⟨b,off,none⟩)
 | .aptr s base len idx,v=> ∃b,(μ s).b=some b∧v= .pointer (some ⟨b,base+idx.toNat,none⟩)∧0≤idx∧idx<len
 | .hot s n,v=>v=slv (μ s) n∧(∀m,n=some m→m≤(μ s).len)∧(μ s).len≤9223372036854775807
 | .hptr s sz i off,v=> ∃b,(μ s).b=some b∧v= .pointer (some ⟨b,i.toNat*sz+off,none⟩)∧0≤i∧i<(μ s).len
 | .rp fr t x off,v=>RpRel w (ok fr) t x off v
 | .fn _ _,_=>False
 | .gp g len i,v=>v= .pointer (some ⟨g,i.toNat,none⟩)∧0≤i∧i<len
 | .cut s sz lo hi,v=> ∃b,(μ s).b=some b∧v= .slice (some ⟨b,lo*sz,none⟩) (hi-lo) ((μ s).cap-lo)∧lo<hi∧hi≤(μ s).len
def CellsRel (R:SV→Value→Prop):AV→Value→Prop
 | .one x,v=>R x v
 | .agg cs,v=> ∃vs:List Value,v= .agg vs.toArray∧All2 R cs vs
 |_,_=>False
def CapRel (w:World) (μ:Locs) (ok:OK) (c:Cap) (v:Value):Prop:=CellsRel (SVRel0 w μ ok) (capVal c) v
def SVRel (w:World) (μ:Locs) (ok:OK):SV→Value→Prop
 | .fn f caps,v=> ∃vs:List Value,v= .func (.func f) #[] vs.toArray∧All2 (CapRel w μ ok) caps vs
 |x,v=>SVRel0 w μ ok x v
theorem SVRel0.one {w:World} {μ:Locs} {ok:OK}: ∀ {x:SV} {v:Value},SVRel0 w μ ok x v→v.oneCell'=true:=by
 intro x v h
 cases x with
 |junk=>exact h
 |bool b=>rw[show v=_ from h];rfl
 |int k n=>rw[h.1];rfl
 |str s=>rw[h.1];rfl
 |nilp=>rw[show v=_ from h];rfl
 |nils=>rw[show v=_ from h];rfl
 |nilf=>rw[show v=_ from h];rfl
 |nilm=>rw[show v=_ from h];rfl
 |sm fr kt vt es=>rcases h with⟨rfl,_⟩|⟨b,rfl,_⟩<;>rfl
 |mref s=>obtain⟨b,_,rfl⟩:=h;rfl
 |sl fr t nl xs=>exact TRel.one h.1 v (by simp)
 |ptr s off=>obtain⟨b,_,rfl⟩:=h;rfl
 |aptr s base len idx=>obtain⟨b,_,rfl,_⟩:=h;rfl
 |hot s n=>rw[h.1];rfl
 |hptr s sz i off=>obtain⟨b,_,rfl,_⟩:=h;rfl
 |rp fr t x off=>obtain⟨b,o,cs,rfl,_⟩:=h;rfl
 |fn f caps=>exact h.elim
 |cut s sz lo hi=>obtain⟨b,_,rfl,_⟩:=h;rfl
 |gp g len i=>rw[h.1];rfl
theorem SVRel.eq0 {w:World} {μ:Locs} {ok:OK} {x:SV} {v:Value} (h: ∀f c,x≠ .fn f c):SVRel w μ ok x v=SVRel0 w μ ok x v:=by
 cases x<;>first|rfl|exact absurd rfl (h _ _)
theorem SVRel.one {w:World} {μ:Locs} {ok:OK} {x:SV} {v:Value} (h:SVRel w μ ok x v):v.oneCell'=true:=by
 cases x with
 |fn f caps=>obtain⟨vs,rfl,_⟩:=h;rfl
 |_=>rw[SVRel.eq0 (by intro f c e;cases e)]at h;exact SVRel0.one h
theorem SVRel0.mono {w w':World} {μ μ':Locs} {ok ok':OK} (hw: ∀fr b,ok fr b→w'.heap[b]? =w.heap[b]?) (hok: ∀fr b,ok fr b→ok' fr b)
 {x:SV} {v:Value} (hμ: ∀s,x.refers s=true→μ' s=μ s) (h:SVRel0 w μ ok x v):SVRel0 w' μ' ok' x v:=by
 cases x with
 |sl fr t nl xs=>exact⟨TRel.mono (hw fr) (hok fr) h.1,h.2⟩
 |sm fr kt vt es=>
  rcases h with h|⟨b,e,hb,h⟩
  ·exact .inl h
  ·exact .inr ⟨b,e,hok fr b hb,h.mono (hw fr) (hok fr) (hw fr b hb)⟩
 |mref s=>rw[SVRel0,hμ s (by simp [SV.refers])];exact h
 |ptr s off=>
  obtain⟨b,h1,h2⟩:=h
  exact⟨b,by rw[hμ s (by simp [SV.refers])];exact h1,h2⟩
 |aptr s base len idx=>
  obtain⟨b,h1,h2⟩:=h
  exact⟨b,by rw[hμ s (by simp [SV.refers])];exact h1,h2⟩
 |hot s n=>
  have e:=hμ s (by simp [SV.refers])
  show v=slv (μ' s) n∧(∀m,n=some m→m≤(μ' s).len)∧(μ' s).len≤9223372036854775807
  rw[e];exact h
 |hptr s sz i off=>
  obtain⟨b,h1,h2,h3⟩:=h
  have e:=hμ s (by simp [SV.refers])
  exact⟨b,by rw[e];exact h1,h2,by rw[e];exact h3⟩
 |rp fr t x off=>
  obtain⟨b,o,cs,e,hb,ht,hc⟩:=h
  exact⟨b,o,cs,e,hok _ _ hb,TRel.mono (hw fr) (hok fr) ht,hc.same (hw fr b hb)⟩
 |cut s sz lo hi=>
  have e:=hμ s (by simp [SV.refers])
  show ∃b,(μ' s).b=some b∧v= .slice (some ⟨b,lo*sz,none⟩) (hi-lo) ((μ' s).cap-lo)∧lo<hi∧hi≤(μ' s).len
  rw[e];exact h
 |_=>exact h
theorem CellsRel.mono {R S:SV→Value→Prop} {a:AV} {v:Value} (hRS: ∀x v,(∀d,x.refers d=true→(match a with| .one y=>y.refers d| .agg cs=>cs.any (SV.refers d)|_=>false)=true)→R x v→S x v) (h:CellsRel R a v):CellsRel S a v:=by
 cases a with
 |one x=>exact hRS x v (fun d hd=>hd) h
 |agg cs=>
  obtain⟨vs,e,hh⟩:=h
  exact⟨vs,e,hh.imp_mem fun a b ha hab=>hRS a b (fun d hd=>List.any_eq_true.2 ⟨a,ha,hd⟩) hab⟩
 |tup l=>exact h.elim
 |own cs=>exact h.elim
 |arr fr t xs=>exact h.elim
 |mapO fr kt vt es=>exact h.elim
 |gho o=>exact h.elim
theorem enc_refers {d:Nat}: ∀ {t:Ty} {fr:Bool} {x:t.D},∀y∈enc t fr x,y.refers d=false
 | .int k,fr,x=>by simp [enc,SV.refers]
 | .bool,fr,x=>by simp [enc,SV.refers]
 | .str,fr,x=>by simp [enc,SV.refers]
 | .unit,fr,x=>by simp [enc]
 | .pair a b,fr,x=>by
   intro y hy
   rcases List.mem_append.1 hy with hy|hy
   ·exact enc_refers y hy
   ·exact enc_refers y hy
 | .sl t,fr,x=>by simp [enc,SV.refers]
theorem CapRel.mono {w w':World} {μ μ':Locs} {ok ok':OK} (hw: ∀fr b,ok fr b→w'.heap[b]? =w.heap[b]?) (hok: ∀fr b,ok fr b→ok' fr b)
 {c:Cap} {v:Value} (hμ: ∀s,c.refers s=true→μ' s=μ s) (h:CapRel w μ ok c v):CapRel w' μ' ok' c v:=by
 unfold CapRel at*
 cases c with
 |ref s off=>
  obtain⟨b,h1,h2⟩:=h
  exact⟨b,by rw[hμ s (by simp [Cap.refers])];exact h1,h2⟩
 |ptrD fr t x=>exact SVRel0.mono (x:= .rp fr t x 0) (μ:=μ) (μ':=μ') hw hok (fun s hs=>by simp [SV.refers]at hs) h
 |valD fr t x=>
  have hall: ∀d,∀z∈enc t fr x,z.refers d=false:=fun d=>enc_refers
  simp only[capVal]at*
  split at h
  ·rename_i y he
   exact SVRel0.mono hw hok (fun s hs=>by rw[hall s y (by simp [he])]at hs;cases hs) h
  ·rename_i cs he
   obtain⟨vs,e,hh⟩:=h
   exact⟨vs,e,hh.imp_mem fun a b ha hab=>SVRel0.mono hw hok (fun s hs=>by rw[hall s a ha]at hs;cases hs) hab⟩
theorem SVRel.mono {w w':World} {μ μ':Locs} {ok ok':OK} (hw: ∀fr b,ok fr b→w'.heap[b]? =w.heap[b]?) (hok: ∀fr b,ok fr b→ok' fr b)
 {x:SV} {v:Value} (hμ: ∀s,x.refers s=true→μ' s=μ s) (h:SVRel w μ ok x v):SVRel w' μ' ok' x v:=by
 cases x with
 |fn f caps=>
  obtain⟨vs,e,hh⟩:=h
  exact⟨vs,e,hh.imp_mem fun c b hc hcb=>CapRel.mono hw hok (fun s hs=>hμ s (List.any_eq_true.2 ⟨c,hc,hs⟩)) hcb⟩
 |_=>
  rw[SVRel.eq0 (by intro f c e;cases e)]at h⊢
  exact SVRel0.mono hw hok hμ h
def compRel (w:World) (μ:Locs) (ok:OK) (p:Bool×List SV) (v:Value):Prop:=
 match p with
 |(true,cs)=> ∃us:List Value,v= .agg us.toArray∧All2 (SVRel w μ ok) cs us
 |(false,cs)=> ∃x,cs=[x]∧SVRel w μ ok x v
def AVRel (w:World) (μ:Locs) (ok:OK):AV→Value→Prop
 | .one .junk,_=>True
 | .one x,v=>SVRel w μ ok x v
 | .agg cs,v=> ∃vs:List Value,v= .agg vs.toArray∧All2 (SVRel w μ ok) cs vs
 | .tup l,v=> ∃vs:List Value,v= .tuple vs.toArray∧All2 (compRel w μ ok) l vs
 |_,_=>False
theorem AVRel.eq1 {w:World} {μ:Locs} {ok:OK} {x:SV} {v:Value} (h:x≠ .junk):AVRel w μ ok (.one x) v=SVRel w μ ok x v:=by
 cases x<;>first|rfl|exact absurd rfl h
theorem AVRel.mono {w w':World} {μ μ':Locs} {ok ok':OK} (hw: ∀fr b,ok fr b→w'.heap[b]? =w.heap[b]?) (hok: ∀fr b,ok fr b→ok' fr b)
 {x:AV} {v:Value} (hμ: ∀s,x.refers s=true→μ' s=μ s) (h:AVRel w μ ok x v):AVRel w' μ' ok' x v:=by
 cases x with
 |one x=>
  cases x with
  |junk=>trivial
  |_=>
   rw[AVRel.eq1 (by intro e;cases e)]at h⊢
   exact SVRel.mono hw hok hμ h
 |agg cs=>
  obtain⟨vs,e,hh⟩:=h
  exact⟨vs,e,hh.imp_mem fun c b hc hcb=>SVRel.mono hw hok (fun s hs=>hμ s (List.any_eq_true.2 ⟨c,hc,hs⟩)) hcb⟩
 |tup l=>
  obtain⟨vs,e,hh⟩:=h
  refine⟨vs,e,hh.imp_mem fun p b hp hpb=> ?_⟩
  obtain⟨f,cs⟩:=p
  have hμ': ∀y∈cs,∀s,y.refers s=true→μ' s=μ s:=fun y hy s hs=>hμ s (List.any_eq_true.2 ⟨_,hp,List.any_eq_true.2 ⟨y,hy,hs⟩⟩)
  cases f with
  |true=>
   obtain⟨us,e,hu⟩:=hpb
   exact⟨us,e,hu.imp_mem fun c b hc hcb=>SVRel.mono hw hok (hμ' c hc) hcb⟩
  |false=>
   obtain⟨y,e,hy⟩:=hpb
   exact⟨y,e,SVRel.mono hw hok (hμ' y (by simp [show cs=[y]from e])) hy⟩
 |own cs=>exact h.elim
 |arr fr t xs=>exact h.elim
 |mapO fr kt vt es=>exact h.elim
 |gho o=>exact h.elim
def SlotRel (w:World) (μ:Locs) (ok:OK) (i:Nat):AV→Value→Prop
 | .own _,v=> ∃b,(μ i).b=some b∧v= .pointer (some ⟨b,0,none⟩)
 | .arr _ _ _,v=>v=slv (μ i) none
 | .mapO _ _ _ _,v=> ∃b,(μ i).b=some b∧v= .map (some b)
 | .gho _,_=>True
 |a,v=>AVRel w μ ok a v
def OwnRel (w:World) (μ:Locs) (ok:OK) (i:Nat):AV→Prop
 | .own cs=> ∃b c E,(μ i).b=some b∧w.heap[b]? =some (.cells c E (0,0))∧All2 (SVRel w μ ok) cs c.toList
 | .arr fr t xs=>(μ i).len=xs.length∧(μ i).len≤(μ i).cap∧(μ i).cap≤9223372036854775807∧
  (((μ i).b=none∧xs=[]∧(μ i).cap=0)∨
    ∃b c E,(μ i).b=some b∧w.heap[b]? =some (.cells c E (0,0))∧(μ i).cap*t.size≤c.size∧
     ∀j (h:j<xs.length),∃cs,TRel w (ok fr) t xs[j] cs∧ ∀q (hq:q<cs.length),c[j*t.size+q]? =some cs[q])
 | .mapO fr kt vt es=> ∃b,(μ i).b=some b∧MapRel w (ok fr) kt vt es b
 |_=>True
structure Fr (mine:Nat→Prop) (w0 w:World):Prop where
 os:w.os=w0.os
 tape:w.tape=w0.tape
 output:w.output=w0.output
 size:w0.heap.size≤w.heap.size
 block: ∀k,k<w0.heap.size→ ¬mine k→w.heap[k]? =w0.heap[k]?
structure Cx where
 mine:Nat→Prop
 base:Nat→Prop
 n:Nat
 m:Nat
 pin:Nat→Option Loc
def GlobAt (w:World) (g:Nat) (l:List ByteArray):Prop:= ∀i (h:i<l.length),w.cell? ⟨g,i,none⟩=some (.string l[i])∧l[i].size≤9223372036854775807
def GlobOk (w:World):Prop:= ∀g l,glGet g=some l→g<w.heap.size∧GlobAt w g l
structure BaseOk (w:World) (okA:Nat→Prop):Prop where
 lt: ∀b,okA b→b<w.heap.size
 glob:GlobOk w
structure OkS (mine:Cx) (w0:World) (ok:OK):Prop where
 old: ∀b,ok false b→w0.heap.size≤b∨mine.base b
 glob:GlobOk w0
 gm: ∀g l,glGet g=some l→ ¬mine.mine g
structure Facts (mine:Cx) (w0:World) (st:St) (tm:Array Value) (w:World) (μ:Locs) (ok:OK):Prop where
 slots: ∀i,SlotRel w μ ok i (st.at i) (tm.getD i undef)
 owns: ∀i,OwnRel w μ ok i (st.ow i)
 size:tm.size=mine.n
 gho: ∀i,mine.n≤i→i<st.length→(st.at i).isGho=true
 real: ∀i,i<mine.n→(st.at i).isGho=false
 len:mine.n≤st.length∧mine.m≤st.length
 pin: ∀i l,mine.pin i=some l→mine.n≤i∧i<mine.m∧μ i=l
 ownB: ∀i b,(st.ow i).isOwner=true→(μ i).b=some b→b<w.heap.size∧(w0.heap.size≤b∨mine.mine b)∧ ¬ok false b
 inj: ∀i j b,(st.ow i).isOwner=true→(st.ow j).isOwner=true→(μ i).b=some b→(μ j).b=some b→i=j
 okB: ∀b,ok false b→b<w.heap.size
 okT: ∀b,ok true b→ok false b
 okF: ∀b,ok true b→w0.heap.size≤b
 okS:OkS mine w0 ok
 fr:Fr mine.mine w0 w
theorem Facts.ok_any {mine:Cx} {w0:World} {st:St} {tm:Array Value} {w:World} {μ:Locs} {ok:OK} (F:Facts mine w0 st tm w μ ok) {f:Bool} {b:Nat} (h:ok f b):ok false b:=by
 cases f with
 |true=>exact F.okT b h
 |false=>exact h
theorem St.at_set (st:St) (d i:Nat) (v:AV):St.at (List.set st d v) i=if d=i∧d<st.length then v else st.at i:=by
 unfold St.at
 simp only[List.getD_eq_getElem?_getD,List.getElem?_set]
 by_cases h:d=i
 ·subst h
  by_cases h2:d<st.length
  ·simp [h2]
  ·simp [h2]
 ·simp [h]
theorem St.at_set_self (st:St) (d:Nat) (v:AV) (h:d<st.length):St.at (List.set st d v) d=v:=by rw[St.at_set];simp [h]
theorem St.at_set_ne (st:St) {d i:Nat} (v:AV) (h:d≠i):St.at (List.set st d v) i=st.at i:=by rw[St.at_set];simp [h]
theorem St.at_out (st:St) (d:Nat) (h:st.length≤d):st.at d= .one .junk:=by
 unfold St.at;simp [List.getD_eq_getElem?_getD,List.getElem?_eq_none h]
theorem St.at_kill (st:St) (d i:Nat):(st.kill d).at i=(st.at i).kill d:=by
 unfold St.at St.kill
 simp only[List.getD_eq_getElem?_getD,List.getElem?_map]
 cases st[i]? <;>rfl
theorem St.length_kill (st:St) (d:Nat):(st.kill d).length=st.length:=by simp [St.kill]
theorem selfB_owner {st:St} {d:Nat} {v:AV} (h:v.isOwner=true):selfB st d v=false:=by
 unfold selfB
 split
 ·split
  ·cases h
  ·rfl
 ·rfl
theorem selfB_at {st:St} {d:Nat} {v:AV} (h:(st.at d).isOwner=false):selfB st d v=false:=by
 unfold selfB
 split
 ·rename_i e;rw[e]at h;cases h
 ·rfl
theorem selfB_junk (st:St) (d:Nat):selfB st d (.one .junk)=false:=by
 unfold selfB
 split<;>rfl
theorem selfB_true {st:St} {d:Nat} {v:AV} (h:selfB st d v=true): ∃fr t xs,st.at d= .arr fr t xs∧v= .one (.hot d none):=by
 unfold selfB at h
 split at h
 ·rename_i fr t xs e
  split at h
  ·exact⟨fr,t,xs,e,by rw[Nat.eq_of_beq_eq_true h]⟩
  ·cases h
 ·cases h
theorem St.put_eq {st:St} {d:Nat} {v:AV} (h:selfB st d v=false):st.put d v=bif (st.at d).isGho then st else bif (st.at d).isOwner||v.isOwner then(st.kill d).set d (v.kill d)else st.set d v:=by
 unfold St.put;rw[h];rfl
theorem St.length_put (st:St) (d:Nat) (v:AV):(st.put d v).length=st.length:=by
 unfold St.put;cases (st.at d).isGho<;>cases selfB st d v<;>cases ((st.at d).isOwner||v.isOwner)<;>simp [St.length_kill]
theorem AV.un_kill (a:AV) (d:Nat):(a.kill d).un=a.un.kill d:=by
 cases a with
 |gho o=>cases o<;>rfl
 |_=>rfl
theorem AV.isGho_kill (a:AV) (d:Nat):(a.kill d).isGho=a.isGho:=by
 cases a with
 |gho o=>cases o<;>rfl
 |_=>rfl
theorem AV.un_id {a:AV} (h:a.isGho=false):a.un=a:=by cases a<;>first|rfl|cases h
theorem AV.isGho_owner {a:AV} (h:a.isOwner=true):a.isGho=false:=by cases a<;>first|rfl|cases h
theorem St.ow_kill (st:St) (d i:Nat):(st.kill d).ow i=(st.ow i).kill d:=by unfold St.ow;rw[St.at_kill,AV.un_kill]
theorem St.length_upd (st:St) (i:Nat) (v:AV):(st.upd i v).length=st.length:=by simp [St.upd]
theorem St.ow_out (st:St) (d:Nat) (h:st.length≤d):st.ow d= .one .junk:=by unfold St.ow;rw[St.at_out _ _ h];rfl
theorem ov_av {v:AV} (h:v.isOwner=true∨v= .one .junk):v.ov.av=v:=by
 rcases h with h|rfl
 ·cases v<;>first|rfl|cases h
 ·rfl
theorem St.ow_upd_self (st:St) (i:Nat) {v:AV} (h:v.isOwner=true∨v= .one .junk) (hi:i<st.length):(st.upd i v).ow i=v:=by
 unfold St.ow St.upd
 rw[St.at_set_self _ _ _ hi]
 unfold AV.re
 split
 ·exact ov_av h
 ·rcases h with h|rfl
  ·exact AV.un_id (AV.isGho_owner h)
  ·rfl
theorem St.at_upd_ne (st:St) {i j:Nat} (v:AV) (h:i≠j):(st.upd i v).at j=st.at j:=St.at_set_ne st _ h
theorem St.ow_upd_ne (st:St) {i j:Nat} (v:AV) (h:i≠j):(st.upd i v).ow j=st.ow j:=by unfold St.ow;rw[St.at_upd_ne st v h]
theorem St.isGho_upd (st:St) (i j:Nat) {v:AV} (h:v.isGho=false):((st.upd i v).at j).isGho=(st.at j).isGho:=by
 by_cases e:i=j
 ·subst e
  by_cases hl:i<st.length
  ·unfold St.upd
   rw[St.at_set_self _ _ _ hl]
   cases hs:st.at i with
   |gho o=>rfl
   |_=>exact h
  ·rw[St.at_out _ _ (by rw[St.length_upd];omega),St.at_out _ _ (by omega)]
 ·rw[St.at_upd_ne _ _ e]
theorem SV.kill_self (d:Nat) (v:SV):(v.kill d).refers d=false:=by
 unfold SV.kill
 cases h:v.refers d
 ·exact h
 ·rfl
theorem AV.isOwner_kill (d:Nat) (a:AV):(a.kill d).isOwner=a.isOwner:=by
 cases a with
 |gho o=>cases o<;>rfl
 |_=>rfl
theorem any_kill_self (d:Nat) (cs:List SV):(cs.map (SV.kill d)).any (SV.refers d)=false:=by
 simp only[List.any_map,List.any_eq_false]
 intro x _
 simp [SV.kill_self]
theorem AV.kill_self (d:Nat) (a:AV):(a.kill d).refers d=false:=by
 cases a with
 |one v=>exact SV.kill_self d v
 |agg cs=>exact any_kill_self d cs
 |tup l=>
  simp only[AV.kill,AV.refers,List.any_map,List.any_eq_false]
  intro p _
  simp only[Bool.not_eq_true]
  exact any_kill_self d _
 |own cs=>exact any_kill_self d cs
 |arr fr t xs=>rfl
 |mapO fr kt vt es=>rfl
 |gho o=>cases o<;>first|rfl|exact any_kill_self d _
section
variable {w:World} {μ:Locs} {ok:OK}
theorem SVRel.kill {x:SV} {v:Value} (d:Nat) (h:SVRel w μ ok x v):SVRel w μ ok (x.kill d) v:=by
 unfold SV.kill
 cases x.refers d
 ·exact h
 ·exact SVRel.one h
theorem All2.kill {cs:List SV} {vs:List Value} (d:Nat) (h:All2 (SVRel w μ ok) cs vs):All2 (SVRel w μ ok) (cs.map (SV.kill d)) vs:=
 h.map_left _ fun _ _ h=>h.kill d
theorem AVRel.kill {x:AV} {v:Value} (d:Nat) (h:AVRel w μ ok x v):AVRel w μ ok (x.kill d) v:=by
 cases x with
 |one x=>
  by_cases hj:x= .junk
  ·subst hj;show AVRel w μ ok (.one (SV.kill d .junk)) v;trivial
  ·rw[AVRel.eq1 hj]at h
   show AVRel w μ ok (.one (x.kill d)) v
   by_cases hk:x.kill d= .junk
   ·rw[hk];trivial
   ·rw[AVRel.eq1 hk];exact h.kill d
 |agg cs=>obtain⟨vs,e,hh⟩:=h;exact⟨vs,e,hh.kill d⟩
 |tup l=>
  obtain⟨vs,e,hh⟩:=h
  refine⟨vs,e,hh.map_left _ fun p v hp=> ?_⟩
  obtain⟨f,cs⟩:=p
  cases f with
  |true=>obtain⟨us,e,hu⟩:=hp;exact⟨us,e,hu.kill d⟩
  |false=>obtain⟨x,e,hx⟩:=hp;exact⟨x.kill d,by simp [show cs=[x]from e],hx.kill d⟩
 |own cs=>exact h.elim
 |arr fr t xs=>exact h.elim
 |mapO fr kt vt es=>exact h.elim
 |gho o=>exact h.elim
theorem SlotRel.kill {i:Nat} {x:AV} {v:Value} (d:Nat) (h:SlotRel w μ ok i x v):SlotRel w μ ok i (x.kill d) v:=by
 cases x with
 |own cs=>exact h
 |arr fr t xs=>exact h
 |mapO fr kt vt es=>exact h
 |gho o=>cases o<;>trivial
 |one x=>exact AVRel.kill (x:= .one x) d h
 |agg cs=>exact AVRel.kill (x:= .agg cs) d h
 |tup l=>exact AVRel.kill (x:= .tup l) d h
theorem OwnRel.kill {i:Nat} {x:AV} (d:Nat) (h:OwnRel w μ ok i x):OwnRel w μ ok i (x.kill d):=by
 cases x with
 |own cs=>obtain⟨b,c,E,h1,h2,h3⟩:=h;exact⟨b,c,E,h1,h2,h3.kill d⟩
 |arr fr t xs=>exact h
 |mapO fr kt vt es=>exact h
 |gho o=>cases o<;>trivial
 |one x=>trivial
 |agg cs=>trivial
 |tup l=>trivial
theorem SlotRel.of_av {i:Nat} {x:AV} {v:Value} (ho:x.isOwner=false) (h:AVRel w μ ok x v):SlotRel w μ ok i x v:=by
 cases x<;>first|exact h|trivial|cases ho
end
theorem SlotRel.mono {w w':World} {μ μ':Locs} {ok ok':OK} (hw: ∀fr b,ok fr b→w'.heap[b]? =w.heap[b]?) (hok: ∀fr b,ok fr b→ok' fr b)
 {i:Nat} {x:AV} {v:Value} (hμ: ∀s,x.refers s=true→μ' s=μ s) (hi:x.isOwner=true→μ' i=μ i) (h:SlotRel w μ ok i x v):SlotRel w' μ' ok' i x v:=by
 cases x with
 |own cs=>obtain⟨b,h1,h2⟩:=h;exact⟨b,by rw[hi rfl];exact h1,h2⟩
 |arr fr t xs=>show v=slv (μ' i) none;rw[hi rfl];exact h
 |mapO fr kt vt es=>obtain⟨b,h1,h2⟩:=h;exact⟨b,by rw[hi rfl];exact h1,h2⟩
 |gho o=>trivial
 |one x=>exact AVRel.mono (x:= .one x) hw hok hμ h
 |agg cs=>exact AVRel.mono (x:= .agg cs) hw hok hμ h
 |tup l=>exact AVRel.mono (x:= .tup l) hw hok hμ h
theorem OwnRel.mono {w w':World} {μ μ':Locs} {ok ok':OK} (hw: ∀fr b,ok fr b→w'.heap[b]? =w.heap[b]?) (hok: ∀fr b,ok fr b→ok' fr b)
 {i:Nat} {x:AV} (hμ: ∀s,x.refers s=true→μ' s=μ s) (hi:x.isOwner=true→μ' i=μ i) (ho: ∀b,x.isOwner=true→(μ i).b=some b→w'.heap[b]? =w.heap[b]?)
 (h:OwnRel w μ ok i x):OwnRel w' μ' ok' i x:=by
 cases x with
 |own cs=>
  obtain⟨b,c,E,h1,h2,h3⟩:=h
  exact⟨b,c,E,by rw[hi rfl];exact h1,by rw[ho b rfl h1];exact h2,h3.imp_mem fun a v ha hav=>SVRel.mono hw hok (fun s hs=>hμ s (List.any_eq_true.2 ⟨a,ha,hs⟩)) hav⟩
 |arr fr t xs=>
  obtain⟨h1,h2,h3,h4⟩:=h
  refine⟨by rw[hi rfl];exact h1,by rw[hi rfl];exact h2,by rw[hi rfl];exact h3, ?_⟩
  rcases h4 with h4|⟨b,c,E,g1,g2,g3,g4⟩
  ·exact .inl (by rw[hi rfl];exact h4)
  ·refine .inr ⟨b,c,E,by rw[hi rfl];exact g1,by rw[ho b rfl g1];exact g2,by rw[hi rfl];exact g3,fun j hj=> ?_⟩
   obtain⟨cs,t1,t2⟩:=g4 j hj
   exact⟨cs,TRel.mono (hw fr) (hok fr) t1,t2⟩
 |mapO fr kt vt es=>
  obtain⟨b,h1,h2⟩:=h
  exact⟨b,by rw[hi rfl];exact h1,h2.mono (hw fr) (hok fr) (ho b rfl h1)⟩
 |gho o=>trivial
 |one x=>trivial
 |agg cs=>trivial
 |tup l=>trivial
section
variable {mine:Cx} {w0:World} {st:St} {tm:Array Value} {w:World} {μ:Locs} {ok:OK}
theorem Facts.step (F:Facts mine w0 st tm w μ ok) {w1:World} {ok1:OK} (hw: ∀b,ok false b→w1.heap[b]? =w.heap[b]?)
 (ho: ∀i b,(st.ow i).isOwner=true→(μ i).b=some b→w1.heap[b]? =w.heap[b]?) (hsz:w.heap.size≤w1.heap.size)
 (hok: ∀f b,ok f b→ok1 f b) (hB: ∀b,ok1 false b→b<w1.heap.size) (hT: ∀b,ok1 true b→ok1 false b) (hF: ∀b,ok1 true b→w0.heap.size≤b)
 (hno: ∀i b,(st.ow i).isOwner=true→(μ i).b=some b→ ¬ok1 false b) (hS:OkS mine w0 ok1) (fr:Fr mine.mine w0 w1):Facts mine w0 st tm w1 μ ok1 where
 slots i:=(F.slots i).mono (fun f b h=>hw b (F.ok_any h)) hok (fun _ _=>rfl) (fun _=>rfl)
 owns i:=(F.owns i).mono (fun f b h=>hw b (F.ok_any h)) hok (fun _ _=>rfl) (fun _=>rfl) (fun b=>ho i b)
 size:=F.size
 gho:=F.gho
 real:=F.real
 len:=F.len
 pin:=F.pin
 ownB i b h1 h2:=⟨Nat.lt_of_lt_of_le (F.ownB i b h1 h2).1 hsz,(F.ownB i b h1 h2).2.1,hno i b h1 h2⟩
 inj:=F.inj
 okB:=hB
 okT:=hT
 okF:=hF
 okS:=hS
 fr:=fr
theorem getD_set (tm:Array Value) (d i:Nat) (x u:Value):(tm.setIfInBounds d x).getD i u=if d=i∧d<tm.size then x else tm.getD i u:=by
 simp only[←Array.getElem?_toList,Array.getD_eq_getD_getElem?,Array.toList_setIfInBounds,List.getElem?_set,Array.length_toList]
 by_cases h:d=i
 ·subst h
  by_cases h2:d<tm.size
  ·simp [h2]
  ·simp [h2]
 ·simp [h]
theorem SlotRel.junk {i:Nat} {v:Value}:SlotRel w μ ok i (.one .junk) v:=trivial
theorem AVRel.noGho {v:AV} {x:Value} (h:AVRel w μ ok v x):v.isGho=false:=by cases v<;>first|rfl|exact h.elim
theorem Facts.slot (F:Facts mine w0 st tm w μ ok) {d:Nat} (h:(st.at d).isGho=false) (hl:d<st.length):d<tm.size:=by
 rw[F.size]
 rcases Nat.lt_or_ge d mine.n with hd|hd
 ·exact hd
 ·rw[F.gho d hd hl]at h;cases h
theorem Facts.putG (F:Facts mine w0 st tm w μ ok) {d:Nat} {x:Value} (h:(st.at d).isGho=true):Facts mine w0 st (tm.setIfInBounds d x) w μ ok:=by
 have:tm.size≤d:=by
  rw[F.size]
  rcases Nat.lt_or_ge d mine.n with hd|hd
  ·rw[F.real d hd]at h;cases h
  ·exact hd
 have e:tm.setIfInBounds d x=tm:=by simp [Array.setIfInBounds,show ¬d<tm.size by omega]
 rw[e];exact F
theorem Facts.putV (F:Facts mine w0 st tm w μ ok) (d:Nat) {v:AV} {x:Value} (hv:AVRel w μ ok v x) (ho:v.isOwner=false):
 Facts mine w0 (st.put d v) (tm.setIfInBounds d x) w μ ok:=by
 cases hg:(st.at d).isGho with
 |true=>
  have:st.put d v=st:=by unfold St.put;rw[hg];rfl
  rw[this];exact F.putG hg
 |false=>
 have key: ∀(st':St) (v':AV),(∀i,i≠d→st'.at i=st.at i∨st'.at i=(st.at i).kill d)→(d<st.length→st'.at d=v')→st'.length=st.length→AVRel w μ ok v' x→v'.isOwner=false→
  Facts mine w0 st' (tm.setIfInBounds d x) w μ ok:=by
  intro st' v' h1 h2 h3 h4 h5
  have hout:st.length≤d→st'.at d= .one .junk:=fun h=>St.at_out _ _ (by omega)
  have hgv:v'.isGho=false:=h4.noGho
  have how: ∀i,i≠d→st'.ow i=st.ow i∨st'.ow i=(st.ow i).kill d:=fun i hi=>by
   unfold St.ow
   rcases h1 i hi with h|h
   ·rw[h];exact .inl rfl
   ·rw[h,AV.un_kill];exact .inr rfl
  have howd:(st'.ow d).isOwner=false∧(d<st.length→st'.ow d=v'):=by
   unfold St.ow
   by_cases hl:d<st.length
   ·rw[h2 hl,AV.un_id hgv];exact⟨h5,fun _=>rfl⟩
   ·rw[hout (by omega)];exact⟨rfl,fun h=>absurd h hl⟩
  have hown: ∀i,(st'.ow i).isOwner=true→i≠d∧(st.ow i).isOwner=true:=by
   intro i hi
   by_cases e:i=d
   ·subst e
    rw[howd.1]at hi;cases hi
   ·refine⟨e, ?_⟩
    rcases how i e with h|h
    ·rwa [h]at hi
    ·rwa [h,AV.isOwner_kill]at hi
  have hgi: ∀i,(st'.at i).isGho=(st.at i).isGho:=by
   intro i
   by_cases e:i=d
   ·subst e
    rw[hg]
    by_cases hl:i<st.length
    ·rw[h2 hl];exact hgv
    ·rw[hout (by omega)];rfl
   ·rcases h1 i e with h|h
    ·rw[h]
    ·rw[h,AV.isGho_kill]
  refine⟨fun i=> ?_,fun i=> ?_,by rw[Array.size_setIfInBounds];exact F.size,fun i h4 h5=>by rw[hgi];exact F.gho i h4 (by rw[←h3];exact h5),fun i hi=>by rw[hgi];exact F.real i hi,by rw[h3];exact F.len,F.pin,
   fun i b hi hb=>F.ownB i b (hown i hi).2 hb,fun i j b hi hj=>F.inj i j b (hown i hi).2 (hown j hj).2,F.okB,F.okT,F.okF,F.okS,F.fr⟩
  ·rw[getD_set]
   by_cases e:d=i
   ·subst e
    by_cases hl:d<st.length
    ·rw[if_pos ⟨rfl,F.slot hg hl⟩,h2 hl]
     exact SlotRel.of_av h5 h4
    ·rw[hout (by omega)];exact SlotRel.junk
   ·rw[if_neg (fun h=>e h.1)]
    rcases h1 i (Ne.symm e)with h|h
    ·rw[h];exact F.slots i
    ·rw[h];exact(F.slots i).kill d
  ·by_cases e:d=i
   ·subst e
    by_cases hl:d<st.length
    ·rw[howd.2 hl];cases v'<;>first|trivial|cases h5
    ·unfold St.ow;rw[hout (by omega)];trivial
   ·rcases how i (Ne.symm e)with h|h
    ·rw[h];exact F.owns i
    ·rw[h];exact(F.owns i).kill d
 cases hsf:selfB st d v with
 |true=>
  obtain⟨fr,t,xs,e1,rfl⟩:=selfB_true hsf
  have e:st.put d (.one (.hot d none))=st:=by unfold St.put;rw[hg,hsf];rfl
  rw[e]
  have hx:x=slv (μ d) none:=hv.1
  have hd:=F.slots d
  rw[e1]at hd
  have hd:tm.getD d undef=slv (μ d) none:=hd
  have hl:d<st.length:=by
   rcases Nat.lt_or_ge d st.length with h|h
   ·exact h
   ·rw[St.at_out _ _ h]at e1;cases e1
  have ht:=F.slot hg hl
  have e2:tm.setIfInBounds d x=tm:=by
   apply Array.ext_getElem?
   intro i
   rw[Array.getElem?_setIfInBounds]
   split
   ·rename_i hi
    subst hi
    rw[hx,←hd]
    simp [Array.getD,ht]
   ·rfl
  rw[e2];exact F
 |false=>
 rw[St.put_eq hsf]
 rw[hg]
 simp only[cond_false]
 cases hc:((st.at d).isOwner||v.isOwner)with
 |false=>
  exact key _ v (fun i hi=> .inl (St.at_set_ne st v (Ne.symm hi))) (fun hl=>St.at_set_self st d v hl) (by simp) hv ho
 |true=>
  refine key _ (v.kill d) (fun i hi=> .inr ?_) (fun hl=> ?_) (by simp [St.length_kill]) (hv.kill d) (by rw[AV.isOwner_kill];exact ho)
  ·show St.at (List.set (st.kill d) d (v.kill d)) i=_
   rw[St.at_set_ne _ _ (Ne.symm hi),St.at_kill]
  ·exact St.at_set_self _ d _ (by rw[St.length_kill];exact hl)
theorem Facts.forget (F:Facts mine w0 st tm w μ ok) (d:Nat):Facts mine w0 (st.kill d) tm w μ ok where
 slots i:=by rw[St.at_kill];exact(F.slots i).kill d
 owns i:=by rw[St.ow_kill];exact(F.owns i).kill d
 size:=F.size
 gho i h1 h2:=by rw[St.at_kill,AV.isGho_kill];exact F.gho i h1 (by simpa [St.length_kill]using h2)
 real i h1:=by rw[St.at_kill,AV.isGho_kill];exact F.real i h1
 len:=by rw[St.length_kill];exact F.len
 pin:=F.pin
 ownB i b h1 h2:=by rw[St.ow_kill,AV.isOwner_kill]at h1;exact F.ownB i b h1 h2
 inj i j b h1 h2:=by rw[St.ow_kill,AV.isOwner_kill]at h1 h2;exact F.inj i j b h1 h2
 okB:=F.okB
 okT:=F.okT
 okF:=F.okF
 okS:=F.okS
 fr:=F.fr
def upd (μ:Locs) (d:Nat) (l:Loc):Locs:=fun i=>if i=d then l else μ i
theorem upd_self (μ:Locs) (d:Nat) (l:Loc):upd μ d l d=l:=by simp [upd]
theorem upd_ne (μ:Locs) {d i:Nat} (l:Loc) (h:i≠d):upd μ d l i=μ i:=by simp [upd,h]
theorem Facts.putO (F:Facts mine w0 st tm w μ ok) (d:Nat) {v:AV} {x:Value} (l:Loc) (ho:v.isOwner=true) (hg:(st.at d).isGho=false) (hd:d<st.length)
 (hs:SlotRel w (upd μ d l) ok d v x) (hown:OwnRel w (upd μ d l) ok d (v.kill d))
 (hb: ∀b,l.b=some b→b<w.heap.size∧(w0.heap.size≤b∨mine.mine b)∧ ¬ok false b∧ ∀i,i≠d→(st.ow i).isOwner=true→(μ i).b≠some b):
 Facts mine w0 (st.put d v) (tm.setIfInBounds d x) w (upd μ d l) ok:=by
 have hput:st.put d v=(st.kill d).set d (v.kill d):=by rw[St.put_eq (selfB_owner ho)];rw[hg];simp [ho]
 rw[hput]
 have hdn:=F.slot hg hd
 have hat: ∀i,i≠d→St.at ((st.kill d).set d (v.kill d)) i=(st.at i).kill d:=fun i hi=>by
  rw[St.at_set_ne _ _ (Ne.symm hi),St.at_kill]
 have hatd:St.at ((st.kill d).set d (v.kill d)) d=v.kill d:=St.at_set_self _ d _ (by rw[St.length_kill];exact hd)
 have hgv:(v.kill d).isGho=false:=by rw[AV.isGho_kill];exact AV.isGho_owner ho
 have how: ∀i,i≠d→St.ow ((st.kill d).set d (v.kill d)) i=(st.ow i).kill d:=fun i hi=>by
  unfold St.ow;rw[hat i hi,AV.un_kill]
 have howd:St.ow ((st.kill d).set d (v.kill d)) d=v.kill d:=by unfold St.ow;rw[hatd,AV.un_id hgv]
 have hμa: ∀(a:AV) s,(a.kill d).refers s=true→upd μ d l s=μ s:=by
  intro a s hs
  refine upd_ne μ l fun e=> ?_
  rw[e,AV.kill_self]at hs;cases hs
 refine⟨fun i=> ?_,fun i=> ?_,by rw[Array.size_setIfInBounds];exact F.size,fun i h1 h2=> ?_,fun i h1=> ?_,by rw[List.length_set,St.length_kill];exact F.len,fun i l' hi=> ?_,fun i b hi hb'=> ?_,fun i j b hi hj hbi hbj=> ?_,F.okB,F.okT,F.okF,F.okS,F.fr⟩
 ·rw[getD_set]
  by_cases e:d=i
  ·subst e
   rw[if_pos ⟨rfl,hdn⟩,hatd]
   exact hs.kill d
  ·rw[if_neg (fun h=>e h.1),hat i (Ne.symm e)]
   have hi:=(F.slots i).kill d
   cases hgi:(st.at i).isGho with
   |true=>
    cases hsi:st.at i with
    |gho o=>cases o<;>trivial
    |_=>rw[hsi]at hgi;cases hgi
   |false=>exact hi.mono (fun _ _ _=>rfl) (fun _ _ h=>h) (hμa _) (fun _=>upd_ne μ l (Ne.symm e))
 ·by_cases e:d=i
  ·subst e
   rw[howd];exact hown
  ·rw[how i (Ne.symm e)]
   exact((F.owns i).kill d).mono (fun _ _ _=>rfl) (fun _ _ h=>h) (hμa _) (fun _=>upd_ne μ l (Ne.symm e)) (fun _ _ _=>rfl)
 ·by_cases e:i=d
  ·subst e
   rw[F.gho i h1 hd]at hg;cases hg
  ·rw[hat i e,AV.isGho_kill];exact F.gho i h1 (by simpa [St.length_kill]using h2)
 ·by_cases e:i=d
  ·subst e;rw[hatd];exact hgv
  ·rw[hat i e,AV.isGho_kill];exact F.real i h1
 ·obtain⟨p1,p3,p2⟩:=F.pin i l' hi
  refine⟨p1,p3, ?_⟩
  rw[upd_ne μ l (by rw[F.size]at hdn;omega)];exact p2
 ·by_cases e:i=d
  ·subst e
   rw[upd_self]at hb'
   exact⟨(hb b hb').1,(hb b hb').2.1,(hb b hb').2.2.1⟩
  ·rw[upd_ne μ l e]at hb'
   rw[how i e,AV.isOwner_kill]at hi
   exact F.ownB i b hi hb'
 ·by_cases e:i=d
  ·subst e
   by_cases e':j=i
   ·exact e'.symm
   ·rw[how j e',AV.isOwner_kill]at hj
    rw[upd_self]at hbi
    rw[upd_ne μ l e']at hbj
    exact absurd hbj ((hb b hbi).2.2.2 j e' hj)
  ·rw[how i e,AV.isOwner_kill]at hi
   rw[upd_ne μ l e]at hbi
   by_cases e':j=d
   ·subst e'
    rw[upd_self]at hbj
    exact absurd hbi ((hb b hbj).2.2.2 i e hi)
   ·rw[how j e',AV.isOwner_kill]at hj
    rw[upd_ne μ l e']at hbj
    exact F.inj i j b hi hj hbi hbj
theorem Facts.setV (F:Facts mine w0 st tm w μ ok) (d:Nat) {v:AV} (hgd:(st.at d).isGho=false) (hold:(st.at d).isOwner=false) (ho:v.isOwner=false) (hv:AVRel w μ ok v (tm.getD d undef)):
 Facts mine w0 (List.set st d v) tm w μ ok:=by
 have hat: ∀i,i≠d→St.at (List.set st d v) i=st.at i:=fun i hi=>St.at_set_ne st v (Ne.symm hi)
 have hgv:=hv.noGho
 have how: ∀i,i≠d→St.ow (List.set st d v) i=st.ow i:=fun i hi=>by unfold St.ow;rw[hat i hi]
 have hown: ∀i,(St.ow (List.set st d v) i).isOwner=true→(st.ow i).isOwner=true:=by
  intro i hi
  by_cases e:i=d
  ·subst e
   unfold St.ow at hi
   by_cases hl:i<st.length
   ·rw[St.at_set_self st i v hl,AV.un_id hgv,ho]at hi;cases hi
   ·rw[St.at_out _ _ (by simp;omega)]at hi;cases hi
  ·rwa [how i e]at hi
 have hgi: ∀i,(St.at (List.set st d v) i).isGho=(st.at i).isGho:=by
  intro i
  by_cases e:i=d
  ·subst e
   by_cases hl:i<st.length
   ·rw[St.at_set_self st i v hl,hgv,hgd]
   ·rw[St.at_out _ _ (by simp;omega),St.at_out _ _ (by omega)]
  ·rw[hat i e]
 refine⟨fun i=> ?_,fun i=> ?_,F.size,fun i h1 h2=>by rw[hgi];exact F.gho i h1 (by simpa using h2),fun i h1=>by rw[hgi];exact F.real i h1,by rw[List.length_set];exact F.len,F.pin,fun i b hi hb=>F.ownB i b (hown i hi) hb,fun i j b hi hj=>F.inj i j b (hown i hi) (hown j hj),F.okB,F.okT,F.okF,F.okS,F.fr⟩
 ·by_cases e:i=d
  ·subst e
   by_cases hl:i<st.length
   ·rw[St.at_set_self st i v hl];exact SlotRel.of_av ho hv
   ·rw[St.at_out _ _ (by simp;omega)];trivial
  ·rw[hat i e];exact F.slots i
 ·by_cases e:i=d
  ·subst e
   unfold St.ow
   by_cases hl:i<st.length
   ·rw[St.at_set_self st i v hl,AV.un_id hgv];cases v<;>first|trivial|cases ho
   ·rw[St.at_out _ _ (by simp;omega)];trivial
  ·rw[how i e];exact F.owns i
theorem cvS_rel {v:Value} (h:cvS v≠ .junk):SVRel w μ ok (cvS v) v:=by
 unfold cvS at*
 split<;>try (simp_all;done)
 ·exact rfl
 ·rename_i k n
  cases hb:hasB k n with
  |false=>simp [hb]at h
  |true=>
   simp only[cond_true]
   unfold hasB at hb
   simp at hb
   exact⟨rfl,hb⟩
 ·rename_i s
  cases hb:Nat.ble s.size 9223372036854775807 with
  |false=>simp [hb]at h
  |true=>exact⟨rfl,Nat.le_of_ble_eq_true hb⟩
 ·exact rfl
 ·exact rfl
 ·exact rfl
 ·exact rfl
end
section
variable {mine:Cx} {w0:World} {st:St} {a:Act} {w:World} {μ:Locs} {ok:OK}
theorem cv_rel (v:Value):AVRel w μ ok (cv v) v:=by
 have one: ∀v:Value,AVRel w μ ok (.one (cvS v)) v:=by
  intro v
  by_cases h:cvS v= .junk
  ·rw[h];trivial
  ·rw[AVRel.eq1 h];exact cvS_rel h
 unfold cv
 split
 ·rename_i cs
  cases hj:(cs.toList.map cvS).any SV.isJunk with
  |true=>trivial
  |false=>
   refine⟨cs.toList,by simp, ?_⟩
   have: ∀l:List Value,(l.map cvS).any SV.isJunk=false→All2 (SVRel w μ ok) (l.map cvS) l:=by
    intro l
    induction l with
    |nil=>intro _;exact .nil
    |cons x l ih=>
     intro h
     simp only[List.map_cons,List.any_cons,Bool.or_eq_false_iff]at h
     refine .cons (cvS_rel fun e=> ?_) (ih h.2)
     rw[e]at h;simp [SV.isJunk]at h
   exact this _ hj
 ·exact one _
theorem rdSlot_rel (F:Facts mine w0 st a.tmps w μ ok) (t:Nat):AVRel w μ ok (rdSlot st t) (a.tmps.getD t undef):=by
 have h:=F.slots t
 unfold rdSlot
 cases hs:st.at t with
 |own cs=>rw[hs]at h;obtain⟨b,h1,h2⟩:=h;exact⟨b,h1,h2⟩
 |mapO f kt vt es=>rw[hs]at h;obtain⟨b,h1,h2⟩:=h;exact⟨b,h1,h2⟩
 |gho o=>trivial
 |arr fr ty xs=>
  rw[hs]at h
  have ho:=F.owns t
  rw[show st.ow t= .arr fr ty xs by unfold St.ow;rw[hs];rfl]at ho
  have h1:=ho.2.1
  have h2:=ho.2.2.1
  exact⟨h,(fun m hm=>by cases hm),by omega⟩
 |one x=>rw[hs]at h;exact h
 |agg cs=>rw[hs]at h;exact h
 |tup l=>rw[hs]at h;exact h
theorem Facts.glob {tm:Array Value} (F:Facts mine w0 st tm w μ ok):GlobOk w:=by
 intro g l hg
 obtain⟨h1,h2⟩:=F.okS.glob g l hg
 refine⟨Nat.lt_of_lt_of_le h1 F.fr.size,fun i hi=> ?_⟩
 rw[cell_same (F.fr.block g h1 (F.okS.gm g l hg))]
 exact h2 i hi
theorem rd_rel (F:Facts mine w0 st a.tmps w μ ok) (x:Operand):AVRel w μ ok (rd st x) (a.eval x):=by
 cases x with
 |tmp t=>exact rdSlot_rel F t
 |const v=>exact cv_rel v
 |func f=>exact⟨[],rfl,.nil⟩
 |global g=>
  show AVRel w μ ok (match glGet g with|some l=>bif Nat.blt 0 l.length then .one (.gp g l.length 0)else .one .junk|none=> .one .junk) _
  split
  ·rename_i l hg
   cases hb:Nat.blt 0 l.length with
   |false=>trivial
   |true=>
    have:0<l.length:=by simpa [Nat.blt_eq]using hb
    show SVRel0 w μ ok (.gp g l.length 0) _
    exact⟨rfl,Int.le_refl 0,by omega⟩
  ·trivial
theorem rd_one (F:Facts mine w0 st a.tmps w μ ok) {x:Operand} {v:SV} (h:rd st x= .one v) (hj:v≠ .junk):SVRel w μ ok v (a.eval x):=by
 have:=rd_rel F x
 rw[h,AVRel.eq1 hj]at this
 exact this
theorem rd_bool (F:Facts mine w0 st a.tmps w μ ok) {x:Operand} {b:Bool} (h:rd st x= .one (.bool b)):a.eval x= .bool b:=rd_one F h (by simp)
theorem rd_int (F:Facts mine w0 st a.tmps w μ ok) {x:Operand} {k:IntKind} {n:Int} (h:rd st x= .one (.int k n)):a.eval x= .int k n∧k.has n:=rd_one F h (by simp)
theorem rdSlot_notOwner (st:St) (t:Nat):(rdSlot st t).isOwner=false:=by
 unfold rdSlot
 cases st.at t<;>rfl
theorem cv_notOwner (v:Value):(cv v).isOwner=false:=by
 unfold cv
 split
 ·rename_i cs;cases (cs.toList.map cvS).any SV.isJunk<;>rfl
 ·rfl
theorem rd_notOwner (st:St) (x:Operand):(rd st x).isOwner=false:=by
 cases x with
 |tmp t=>exact rdSlot_notOwner st t
 |const v=>exact cv_notOwner v
 |func f=>rfl
 |global g=>
  show AV.isOwner (match glGet g with|some l=>bif Nat.blt 0 l.length then .one (.gp g l.length 0)else .one .junk|none=> .one .junk)=false
  split
  ·rename_i l hg;cases Nat.blt 0 l.length<;>rfl
  ·rfl
theorem cellsOf_rel {x:AV} {v:Value} {cs:List SV} (h:AVRel w μ ok x v) (hc:cellsOf x=some cs):All2 (SVRel w μ ok) cs v.cells.toList:=by
 cases x with
 |one y=>
  by_cases hy:y= .junk
  ·subst hy;cases hc
  ·rw[AVRel.eq1 hy]at h
   have hc':cs=[y]:=by cases y<;>first|exact absurd rfl hy|(simp only[cellsOf,Option.some.injEq]at hc;exact hc.symm)
   subst hc'
   have h1:=h.one
   have:v.cells.toList=[v]:=by cases v<;>first|rfl|cases h1
   rw[this]
   exact .cons h .nil
 |agg c=>
  simp only[cellsOf,Option.some.injEq]at hc
  subst hc
  obtain⟨vs,rfl,hh⟩:=h
  simpa [Value.cells]using hh
 |tup l=>cases hc
 |own c=>cases hc
 |arr f t xs=>cases hc
 |mapO f kt vt es=>cases hc
 |gho o=>cases hc
end
theorem enc_rel {w:World} {μ:Locs} {ok:OK}: ∀ {t:Ty} {fr:Bool} {x:t.D} {vs:List Value},TRel w (ok fr) t x vs→All2 (SVRel w μ ok) (enc t fr x) vs
 | .int k,fr,x,vs,h=>by obtain⟨rfl,h⟩:=h;exact .cons ⟨rfl,h⟩ .nil
 | .bool,fr,x,vs,h=>by rw[show vs=_ from h];exact .cons rfl .nil
 | .str,fr,x,vs,h=>by obtain⟨rfl,h⟩:=h;exact .cons ⟨rfl,h⟩ .nil
 | .unit,fr,x,vs,h=>by rw[show vs=_ from h];exact .nil
 | .pair a b,fr,x,vs,h=>by
   obtain⟨u,v,rfl,h1,h2⟩:=h
   exact(enc_rel h1).append (enc_rel h2)
 | .sl t,fr,x,vs,h=>by
   have h':=h
   obtain⟨A,c,rfl,_⟩:=h'
   exact .cons ⟨h,trivial⟩ .nil
theorem castL_eq {a b:Ty} {xs:List a.D} {ys:List b.D} (h:Ty.castL a b xs=some ys): ∃e:a=b,e▸xs=ys:=by
 unfold Ty.castL at h
 split at h
 ·rename_i e
  exact⟨e,by simpa using h⟩
 ·cases h
theorem ikEq_eq {a b:IntKind} (h:ikEq a b=true):a=b:=by
 cases a<;>cases b<;>first|rfl|cases h
theorem dec_rel {w:World} {μ:Locs} {ok:OK} (hT: ∀b,ok true b→ok false b): ∀ {t:Ty} {cs:List SV} {vs:List Value} {x:t.D} {f:Bool} {r:List SV},
 All2 (SVRel w μ ok) cs vs→dec t cs=some (x,f,r)→ ∃u v,vs=u++v∧TRel w (ok f) t x u∧All2 (SVRel w μ ok) r v:=by
 have up: ∀f g b,ok f b→(f=true→g=true)→ok f b:=fun f g b h _=>h
 have weak: ∀(f g:Bool) b,(g=true→f=true)→ok f b→ok g b:=by
  intro f g b hg hb
  cases g with
  |true=>rw[hg rfl]at hb;exact hb
  |false=>cases f with
   |true=>exact hT b hb
   |false=>exact hb
 intro t
 induction t with
 |unit=>
  intro cs vs x f r h hd
  simp only[dec,Option.some.injEq,Prod.mk.injEq]at hd
  obtain⟨_,rfl,rfl⟩:=hd
  exact⟨[],vs,rfl,rfl,h⟩
 |int k=>
  intro cs vs x f r h hd
  cases h with
  |nil=>simp [dec]at hd
  | @cons c v cs vs hv ht=>
    cases c<;>simp only[dec]at hd<;>try (cases hd;done)
    rename_i k' n
    cases hk:ikEq k k' with
    |false=>simp [hk]at hd
    |true=>
     obtain rfl:=ikEq_eq hk
     simp only[hk,cond_true,Option.some.injEq,Prod.mk.injEq]at hd
     obtain⟨rfl,rfl,rfl⟩:=hd
     obtain⟨rfl,hh⟩:=hv
     exact⟨[_],vs,rfl,⟨rfl,hh⟩,ht⟩
 |bool=>
  intro cs vs x f r h hd
  cases h with
  |nil=>simp [dec]at hd
  | @cons c v cs vs hv ht=>
    cases c<;>simp only[dec]at hd<;>try (cases hd;done)
    simp only[Option.some.injEq,Prod.mk.injEq]at hd
    obtain⟨rfl,rfl,rfl⟩:=hd
    exact⟨[_],vs,rfl,by rw[show v=_ from hv];rfl,ht⟩
 |str=>
  intro cs vs x f r h hd
  cases h with
  |nil=>simp [dec]at hd
  | @cons c v cs vs hv ht=>
    cases c<;>simp only[dec]at hd<;>try (cases hd;done)
    simp only[Option.some.injEq,Prod.mk.injEq]at hd
    obtain⟨rfl,rfl,rfl⟩:=hd
    obtain⟨rfl,hh⟩:=hv
    exact⟨[_],vs,rfl,⟨rfl,hh⟩,ht⟩
 |pair a b iha ihb=>
  intro cs vs x f r h hd
  simp only[dec]at hd
  split at hd
  ·rename_i x1 f1 r1 h1
   split at hd
   ·rename_i x2 f2 r2 h2
    simp only[Option.some.injEq,Prod.mk.injEq]at hd
    obtain⟨rfl,rfl,rfl⟩:=hd
    obtain⟨u,v,rfl,t1,h'⟩:=iha h h1
    obtain⟨u2,v2,rfl,t2,h''⟩:=ihb h' h2
    refine⟨u++u2,v2,by simp,⟨u,u2,rfl, ?_, ?_⟩,h''⟩
    ·exact TRel.mono (fun _ _=>rfl) (fun b hb=>weak f1 _ b (by intro e;simp at e;exact e.1) hb) t1
    ·exact TRel.mono (fun _ _=>rfl) (fun b hb=>weak f2 _ b (by intro e;simp at e;exact e.2) hb) t2
   ·cases hd
  ·cases hd
 |sl t ih=>
  intro cs vs x f r h hd
  cases h with
  |nil=>simp [dec]at hd
  | @cons c v cs vs hv ht=>
    cases c<;>simp only[dec]at hd<;>try (cases hd;done)
    ·simp only[Option.some.injEq,Prod.mk.injEq]at hd
     obtain⟨rfl,rfl,rfl⟩:=hd
     have hv':v= .slice none 0 0:=hv
     subst hv'
     exact⟨[_],vs,rfl,⟨none,0,rfl,by simp,by omega,.inl ⟨rfl,rfl,rfl⟩⟩,ht⟩
    ·rename_i fr t' nl xs
     split at hd
     ·rename_i ys hc
      obtain⟨rfl,e⟩:=castL_eq hc
      simp only[Option.some.injEq,Prod.mk.injEq]at hd
      obtain⟨rfl,rfl,rfl⟩:=hd
      obtain rfl:xs=ys:=e
      exact⟨[_],vs,rfl,hv.1,ht⟩
     ·cases hd
theorem decAll_rel {w:World} {μ:Locs} {ok:OK} (hT: ∀b,ok true b→ok false b) {t:Ty} {cs:List SV} {vs:List Value} {x:t.D} {f:Bool}
 (h:All2 (SVRel w μ ok) cs vs) (hd:decAll t cs=some (x,f)):TRel w (ok f) t x vs:=by
 unfold decAll at hd
 split at hd
 ·rename_i x' f' he
  simp only[Option.some.injEq,Prod.mk.injEq]at hd
  obtain⟨rfl,rfl⟩:=hd
  obtain⟨u,v,rfl,ht,h'⟩:=dec_rel hT h he
  cases h'
  simpa using ht
 ·cases hd
def Agg:TypeDesc→Bool
 | .struct _=>true
 | .array _ _=>true
 |_=>false
def CK.ok:CK→Value→Value→Prop
 | .int k,x,y=> ∃a b,x= .int k a∧y= .int k b
 | .bool,x,y=> ∃a b,x= .bool a∧y= .bool b
 | .str,x,y=> ∃a b,x= .string a∧y= .string b
def CK.same:Value→Value→Bool
 | .int _ a,.int _ b=>a==b
 | .bool a,.bool b=>a==b
 | .string a,.string b=>a==b
 |_,_=>false
def sameAll:List Value→List Value→Bool
 |[],[]=>true
 |x::xs,y::ys=>CK.same x y&&sameAll xs ys
 |_,_=>false
def EqOk (P:Program) (T:TypeId) (ks:List CK):Prop:=
 ∀(w:World) (xs ys:List Value),xs.length=ks.length→ys.length=ks.length→(∀(i:Nat) (k:CK),ks[i]? =some k→ ∀x y,xs[i]? =some x→ys[i]? =some y→CK.ok k x y)→
  (Op.equal T (.agg xs.toArray) (.agg ys.toArray)).run P w= .ok (sameAll xs ys) w∧P.eqGuardType P.depth T=false
def KeyOk (P:Program) (kT:TypeId) (kt:Ty):Prop:=
 kt.flat=true∧
 (∀(w w':World) (okf:Nat→Prop) (x:kt.D) (v:Value) (b:Bool),VRel w okf kt x v→(Instr.checkKey b 10000 kT v).run P w'= .ok () w')∧
 ∃kd,P.underlying kT=some kd∧
  ((∀(w:World) (okf:Nat→Prop) (x y:kt.D) (u v:Value),VRel w okf kt x u→VRel w okf kt y v→Instr.sameNow kd u v=some (eqD kt x y))∨
   ((∀u v,Instr.sameNow kd u v=none)∧ ∀(w w':World) (okf:Nat→Prop) (x y:kt.D) (u v:Value),VRel w okf kt x u→VRel w okf kt y v→(Op.equal kT u v).run P w'= .ok (eqD kt x y) w'))
def TIOk (P:Program) (T:TypeId):TI→Prop
 | .map kt vt=> ∃i kT vT vi zv,P.info? T=some i∧i.size=1∧i.zero=some (.map none)∧P.underlying T=some (.map kT vT)∧KeyOk P kT kt∧
  P.info? vT=some vi∧vi.zero=some zv∧ ∀w ok,VRel w ok vt vt.dflt zv
 | .scal z=> ∃i d zv,P.info? T=some i∧i.size=1∧P.underlying T=some d∧Agg d=false∧i.zero=some zv∧cv zv= .one z∧z≠ .junk∧(∀k n,z= .int k n→d= .int k)∧(∀b,z= .bool b→d= .bool)∧(∀s,z= .str s→d= .string)
 | .struct n z fs eqk=> ∃(i:TypeInfo) (F:Array Field) (zv:Value),P.info? T=some i∧i.size=n∧P.underlying T=some (.struct F)∧i.zero=some zv∧cv zv= .agg z∧z.length=n∧F.size=fs.length∧
  (∀(j o m:Nat) (b:Bool),fs[j]? =some (o,m,b)→ ∃(f:Field) (fi:TypeInfo) (fd:TypeDesc),F[j]? =some f∧f.offset=o∧P.info? f.type=some fi∧fi.size=m∧0<m∧P.underlying f.type=some fd∧Agg fd=b)∧
  (∀ks,eqk=some ks→EqOk P T ks)
 | .array n z eqk=> ∃i zv e ei ed,P.info? T=some i∧i.size=n∧P.underlying T=some (.array n e)∧i.zero=some zv∧cv zv= .agg z∧z.length=n∧
  P.info? e=some ei∧ei.size=1∧P.underlying e=some ed∧Agg ed=false∧(∀ks,eqk=some ks→EqOk P T ks)
 | .slice e t bytes=> ∃i ei ze,P.info? T=some i∧i.size=1∧i.zero=some (.slice none 0 0)∧P.underlying T=some (.slice e)∧P.info? e=some ei∧ei.size=t.size∧ei.bytes=bytes∧
  ei.zero=some ze∧(∀w ok,TRel w ok t t.dflt ze.cells.toList)∧0<bytes∧0<t.size
def TabOk (P:Program) (tb:Tab):Prop:= ∀T i,Tab.get tb T=some i→TIOk P T i
theorem TabOk.nil (P:Program):TabOk P []:=fun T i h=>by cases h
theorem TabOk.cons {P:Program} {T:TypeId} {i:TI} {tb:Tab} (h:TIOk P T i) (t:TabOk P tb):TabOk P ((T,i)::tb):=by
 intro T' i' h'
 simp only[Tab.get]at h'
 cases hb:Nat.beq T T' with
 |true=>
  rw[hb]at h'
  simp only[cond_true,Option.some.injEq]at h'
  obtain rfl:T=T':=Nat.eq_of_beq_eq_true hb
  subst h';exact h
 |false=>
  rw[hb]at h'
  exact t T' i' h'
section
variable {P:Program} {w:World} {tb:Tab} {T:TypeId}
theorem TIOk.sizeOf {ti:TI} (h:TIOk P T ti):(sizeOf T).run P w= .ok ti.size w:=by
 cases ti with
 |map kt vt=>obtain⟨i,kT,vT,vi,zv,h1,h2,_⟩:=h;simp [Go.sizeOf,typeInfo,h1,h2,TI.size]
 |scal z=>obtain⟨i,d,zv,h1,h2,_⟩:=h;simp [Go.sizeOf,typeInfo,h1,h2,TI.size]
 |struct n z fs eqk=>obtain⟨i,F,zv,h1,h2,_⟩:=h;simp [Go.sizeOf,typeInfo,h1,h2,TI.size]
 |array n z eqk=>obtain⟨i,zv,e,ei,ed,h1,h2,_⟩:=h;simp [Go.sizeOf,typeInfo,h1,h2,TI.size]
 |slice e t b=>obtain⟨i,ei,ze,h1,h2,_⟩:=h;simp [Go.sizeOf,typeInfo,h1,h2,TI.size]
theorem TIOk.isAgg {ti:TI} (h:TIOk P T ti):(isAgg T).run P w= .ok ti.isAgg w:=by
 cases ti with
 |map kt vt=>obtain⟨i,kT,vT,vi,zv,h1,h2,h3,h4,_⟩:=h;simp [Go.isAgg,underlying,h4,TI.isAgg]
 |scal z=>
  obtain⟨i,d,zv,h1,h2,h3,h4,_⟩:=h
  simp only[Go.isAgg,underlying,Sem.run_bind,run_program,Result.andThen_ok,h3,Sem.run_pure,TI.isAgg]
  cases d<;>first|rfl|cases h4
 |struct n z fs eqk=>obtain⟨i,F,zv,h1,h2,h3,_⟩:=h;simp [Go.isAgg,underlying,h3,TI.isAgg]
 |array n z eqk=>obtain⟨i,zv,e,ei,ed,h1,h2,h3,_⟩:=h;simp [Go.isAgg,underlying,h3,TI.isAgg]
 |slice e t b=>obtain⟨i,ei,ze,h1,h2,h3,h4,_⟩:=h;simp [Go.isAgg,underlying,h4,TI.isAgg]
theorem TIOk.zero {ti:TI} (h:TIOk P T ti): ∃zv,(zeroValue T).run P w= .ok zv w∧ ∀w μ ok,All2 (SVRel w μ ok) ti.zero zv.cells.toList:=by
 cases ti with
 |map kt vt=>
  obtain⟨i,kT,vT,vi,zv,h1,h2,h3,_⟩:=h
  refine⟨_,by simp [zeroValue,typeInfo,h1,h3];rfl,fun w μ ok=> ?_⟩
  exact .cons rfl .nil
 |scal z=>
  obtain⟨i,d,zv,h1,h2,h3,h4,h5,h6,h7,_⟩:=h
  refine⟨zv,by simp [zeroValue,typeInfo,h1,h5],fun w μ ok=> ?_⟩
  have:=cv_rel (w:=w) (μ:=μ) (ok:=ok) zv
  rw[h6]at this
  exact cellsOf_rel this (by cases z<;>first|rfl|exact absurd rfl h7)
 |struct n z fs eqk=>
  obtain⟨i,F,zv,h1,h2,h3,h4,h5,_⟩:=h
  refine⟨zv,by simp [zeroValue,typeInfo,h1,h4],fun w μ ok=> ?_⟩
  have:=cv_rel (w:=w) (μ:=μ) (ok:=ok) zv
  rw[h5]at this
  obtain⟨vs,rfl,hh⟩:=this
  simpa [Value.cells,TI.zero]using hh
 |array n z eqk=>
  obtain⟨i,zv,e,ei,ed,h1,h2,h3,h4,h5,_⟩:=h
  refine⟨zv,by simp [zeroValue,typeInfo,h1,h4],fun w μ ok=> ?_⟩
  have:=cv_rel (w:=w) (μ:=μ) (ok:=ok) zv
  rw[h5]at this
  obtain⟨vs,rfl,hh⟩:=this
  simpa [Value.cells,TI.zero]using hh
 |slice e t b=>
  obtain⟨i,ei,ze,h1,h2,h3,_⟩:=h
  refine⟨_,by simp [zeroValue,typeInfo,h1,h3];rfl,fun w μ ok=> ?_⟩
  exact .cons rfl .nil
end
theorem add_none (b o n:Nat):(⟨b,o,none⟩:Addr).add n=⟨b,o+n,none⟩:=by
 unfold Addr.add;split
 ·rename_i h;subst h;rfl
 ·rfl
theorem run_loadCellsFrom {P:Program} {w:World} (b o:Nat): ∀(vs:List Value) (i:Nat) (acc:Array Value),(∀q (h:q<vs.length),w.cell? ⟨b,o+(i+q),none⟩=some vs[q])→
 (loadCellsFrom ⟨b,o,none⟩ i vs.length acc).run P w= .ok (acc++vs.toArray) w:=by
 intro vs
 induction vs with
 |nil=>intro i acc _;simp [loadCellsFrom]
 |cons v vs ih=>
  intro i acc h
  have h0:=h 0 (by simp)
  simp only[List.length_cons,loadCellsFrom,Sem.run_bind,add_none,run_load]
  simp only[Nat.add_zero,List.getElem_cons_zero]at h0
  rw[h0]
  simp only[Result.andThen_ok]
  rw[ih (i+1) (acc.push v) (fun q hq=>by
   have:=h (q+1) (by simp;omega)
   simpa [Nat.add_assoc,Nat.add_comm 1 q]using this)]
  congr 1
  apply Array.ext'
  simp
theorem run_loadCells {P:Program} {w:World} {b o:Nat} {vs:List Value} (h:Cells w b o vs):(loadCells ⟨b,o,none⟩ vs.length).run P w= .ok vs.toArray w:=by
 unfold loadCells
 rw[run_loadCellsFrom b o vs 0 #[] (fun q hq=>by simpa using h q hq)]
 simp
theorem asVal_rel {w:World} {μ:Locs} {ok:OK} {f:Bool} {cs:List SV} {vs:List Value} {v:AV} (h:All2 (SVRel w μ ok) cs vs) (hv:asVal f cs=some v):
 v.isOwner=false∧((f=true∧AVRel w μ ok v (.agg vs.toArray))∨(f=false∧ ∃x,vs=[x]∧AVRel w μ ok v x)):=by
 unfold asVal at hv
 split at hv
 ·cases hv
  exact⟨rfl,.inl ⟨rfl,vs,rfl,h⟩⟩
 ·rename_i x
  cases hv
  cases h with
  |cons hx ht=>
   cases ht
   refine⟨rfl,.inr ⟨rfl,_,rfl, ?_⟩⟩
   by_cases hj:x= .junk
   ·subst hj;trivial
   ·rw[AVRel.eq1 hj];exact hx
 ·cases hv
theorem run_loadAt {P:Program} {w:World} {tb:Tab} (hP:TabOk P tb) {T:TypeId} {ti:TI} (hT:Tab.get tb T=some ti) {b o:Nat} {vs:List Value} (hn:vs.length=ti.size) (h:Cells w b o vs)
 (hone:ti.isAgg=false→ ∃x,vs=[x]):
 (Instr.loadAt T (.pointer (some ⟨b,o,none⟩))).run P w= .ok (if ti.isAgg then .agg vs.toArray else vs.headD undef) w:=by
 have h1:=(hP T ti hT).isAgg (w:=w)
 have h2:=(hP T ti hT).sizeOf (w:=w)
 unfold Instr.loadAt Instr.sureAddr loadVar
 simp only[Sem.run_bind,Sem.run_pure,Result.andThen_ok,h1]
 cases hf:ti.isAgg with
 |true=>
  simp only[if_true,Sem.run_bind,h2,Result.andThen_ok]
  rw[←hn,run_loadCells h];simp
 |false=>
  obtain⟨x,rfl⟩:=hone hf
  have:=h 0 (by simp)
  simp at this
  simp [run_load,this]
theorem selInt_rel {w:World} {μ:Locs} {ok:OK}: ∀ {cs:List SV} {vs:List Value} {k:IntKind} {l:List Int},All2 (SVRel w μ ok) cs vs→selInt cs=some (k,l)→
 vs=l.map (Value.int k)∧ ∀n∈l,k.has n:=by
 intro cs
 induction cs with
 |nil=>intro vs k l h hs;simp [selInt]at hs
 |cons c cs ih=>
  intro vs k l h hs
  cases h with
  | @cons _ v _ vs hv ht=>
    cases c<;>try (simp [selInt]at hs;done)
    rename_i k1 n
    obtain⟨rfl,hn⟩:=hv
    cases cs with
    |nil=>
     simp only[selInt,Option.some.injEq,Prod.mk.injEq]at hs
     obtain⟨rfl,rfl⟩:=hs
     cases ht
     exact⟨rfl,by simpa using hn⟩
    |cons c2 cs=>
     simp only[selInt]at hs
     split at hs
     ·rename_i k' l' he
      cases hk:ikEq k1 k' with
      |false=>simp [hk]at hs
      |true=>
       obtain rfl:=ikEq_eq hk
       simp only[hk,cond_true,Option.some.injEq,Prod.mk.injEq]at hs
       obtain⟨rfl,rfl⟩:=hs
       obtain⟨e,hh⟩:=ih ht he
       refine⟨by rw[e];rfl, ?_⟩
       intro m hm
       rcases List.mem_cons.1 hm with rfl|hm
       ·exact hn
       ·exact hh m hm
     ·cases hs
section
variable {mine:Cx} {w0:World} {st:St} {tm:Array Value} {w:World} {μ:Locs} {ok:OK}
theorem cell_block {w:World} {b o:Nat} {c:Array Value} {E:TypeId} {fz:Nat×Nat} (h:w.heap[b]? =some (.cells c E fz)):w.cell? ⟨b,o,none⟩=c[o]? :=by
 simp [World.cell?,h]
theorem ownCells (F:Facts mine w0 st tm w μ ok) {s:Nat} {cs:List SV} (h:st.ow s= .own cs): ∃b c E,(μ s).b=some b∧w.heap[b]? =some (.cells c E (0,0))∧All2 (SVRel w μ ok) cs c.toList:=by
 have:=F.owns s
 rw[h]at this
 exact this
theorem ldCells_rel (F:Facts mine w0 st tm w μ ok) {p:SV} {pv:Value} (hp:SVRel w μ ok p pv) {n:Nat} {cs:List SV} (h:ldCells st p n=some cs) (hn:cs.length=n):
 ∃b o vs,pv= .pointer (some ⟨b,o,none⟩)∧vs.length=n∧Cells w b o vs∧All2 (SVRel w μ ok) cs vs:=by
 have fin: ∀(l:List SV) (us:List Value) (off:Nat),All2 (SVRel w μ ok) l us→cs=(l.drop off).take n→All2 (SVRel w μ ok) cs ((us.drop off).take n)∧((us.drop off).take n).length=n:=by
  intro l us off hl hc
  have h1:=(hl.drop off).take n
  rw[←hc]at h1
  exact⟨h1,by rw[←h1.length];exact hn⟩
 cases p with
 |ptr s off=>
  simp only[ldCells]at h
  split at h
  ·rename_i cs' hs
   simp only[Option.some.injEq]at h
   obtain⟨b,c,E,h1,h2,h3⟩:=ownCells F hs
   obtain⟨b',h1',rfl⟩:=hp
   rw[h1]at h1';cases h1'
   obtain⟨g1,g2⟩:=fin _ _ off h3 h.symm
   refine⟨b,off,_,rfl,g2,fun q hq=> ?_,g1⟩
   rw[cell_block h2]
   rw[g2]at hq
   simp only[List.getElem_take,List.getElem_drop,Array.getElem_toList]
   have hlen:off+q<c.size:=by
    have:=g2;simp at this;omega
   simp [hlen]
  ·cases h
 |rp fr t x off=>
  simp only[ldCells,Option.some.injEq]at h
  obtain⟨b,o,us,rfl,hb,ht,hc⟩:=hp
  obtain⟨g1,g2⟩:=fin _ _ off (enc_rel ht) h.symm
  refine⟨b,o+off,_,rfl,g2,fun q hq=> ?_,g1⟩
  rw[g2]at hq
  have hlen:off+q<us.length:=by have:=g2;simp at this;omega
  have:=hc (off+q) hlen
  simpa [Nat.add_assoc]using this
 |gp g len i=>
  simp only[ldCells]at h
  split at h
  ·rename_i l hg
   cases hz:(Nat.beq l.length len&&Nat.beq n 1)with
   |false=>rw[hz]at h;cases h
   |true=>
    rw[hz]at h
    simp only[cond_true,Option.some.injEq]at h
    subst h
    simp only[Bool.and_eq_true]at hz
    have hz1:=Nat.eq_of_beq_eq_true hz.1
    obtain rfl:=Nat.eq_of_beq_eq_true hz.2
    obtain⟨rfl,h0,h1⟩:=(hp:SVRel0 w μ ok (.gp g len i) pv)
    have hlt:i.toNat<l.length:=by omega
    obtain⟨e1,e2⟩:=(F.glob g l hg).2 i.toNat hlt
    refine⟨g,i.toNat,[.string l[i.toNat]],rfl,rfl,fun q hq=> ?_,.cons ?_ .nil⟩
    ·obtain rfl:q=0:=by simpa using hq
     simpa using e1
    ·have:l.getD i.toNat ByteArray.empty=l[i.toNat]:=by simp [List.getD_eq_getElem?_getD,hlt]
     rw[this]
     exact⟨rfl,e2⟩
  ·cases h
 |hptr s sz i off=>
  simp only[ldCells]at h
  split at h
  ·rename_i fr t xs hs
   cases hz:Nat.beq sz t.size with
   |false=>simp [hz]at h
   |true=>
    have hz':sz=t.size:=Nat.eq_of_beq_eq_true hz
    simp only[hz,cond_true,Option.some.injEq]at h
    obtain⟨b,h1,rfl,h3,h4⟩:=hp
    have ho:=F.owns s
    rw[hs]at ho
    obtain⟨g1,g2,g3,g4⟩:=ho
    rcases g4 with⟨g4,_⟩|⟨b',c,E,k1,k2,k3,k4⟩
    ·rw[h1]at g4;cases g4
    ·rw[h1]at k1;cases k1
     have hi:i.toNat<xs.length:=by omega
     obtain⟨us,t1,t2⟩:=k4 i.toNat hi
     have hx:xs.getD i.toNat t.dflt=xs[i.toNat]:=by simp [List.getD_eq_getElem?_getD,hi]
     rw[hx]at h
     obtain⟨e1,e2⟩:=fin _ _ off (enc_rel (μ:=μ) t1) h.symm
     refine⟨b,i.toNat*sz+off,_,rfl,e2,fun q hq=> ?_,e1⟩
     rw[e2]at hq
     rw[cell_block k2]
     have hlen:off+q<us.length:=by have:=e2;simp at this;omega
     have:=t2 (off+q) hlen
     simp only[List.getElem_take,List.getElem_drop]
     rw[hz',Nat.add_assoc];exact this
  ·cases h
 |aptr s base len idx=>
  simp only[ldCells]at h
  split at h
  ·rename_i cs' hs
   cases h1:Nat.beq n 1 with
   |false=>simp [h1]at h
   |true=>
    have hn1:n=1:=Nat.eq_of_beq_eq_true h1
    simp only[h1,cond_true]at h
    split at h
    ·rename_i k l he
     cases hl:Nat.beq l.length len with
     |false=>simp [hl]at h
     |true=>
      have hl':l.length=len:=Nat.eq_of_beq_eq_true hl
      simp only[hl,cond_true,Option.some.injEq]at h
      subst h
      obtain⟨b,c,E,g1,g2,g3⟩:=ownCells F hs
      obtain⟨b',g1',rfl,h0,hi⟩:=hp
      rw[g1]at g1';cases g1'
      obtain⟨e1,e2⟩:=selInt_rel ((g3.drop base).take len) he
      have hidx:idx.toNat<l.length:=by omega
      refine⟨b,base+idx.toNat,[.int k (l.getD idx.toNat 0)],rfl,by simp [hn1],fun q hq=> ?_,.cons ⟨rfl, ?_⟩ .nil⟩
      ·have hq0:q=0:=by simpa using hq
       subst hq0
       rw[cell_block g2]
       have hm:((c.toList.drop base).take len)[idx.toNat]? =some (.int k (l.getD idx.toNat 0)):=by
        rw[e1];simp [List.getD_eq_getElem?_getD,hidx]
       rw[List.getElem?_take,if_pos (by omega),List.getElem?_drop]at hm
       simpa using hm
      ·apply e2
       simp [List.getD_eq_getElem?_getD,hidx]
    ·cases h
  ·cases h
 |junk=>cases h
 |bool b=>cases h
 |int k n=>cases h
 |str s=>cases h
 |nilp=>cases h
 |nils=>cases h
 |nilf=>cases h
 |nilm=>cases h
 |sm f kt vt es=>cases h
 |mref s=>cases h
 |sl fr t nl xs=>cases h
 |hot s n=>cases h
 |fn f c=>cases h
 |cut s sz lo hi=>cases h
end
end Go.AM
