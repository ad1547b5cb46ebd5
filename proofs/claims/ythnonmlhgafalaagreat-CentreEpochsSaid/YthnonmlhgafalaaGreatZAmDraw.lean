import Derived.Test.YthnonmlhgafalaaGreatZAmIO
import Derived.Orders
set_option linter.unusedVariables false
set_option linter.unusedSectionVars false
set_option linter.unusedSimpArgs false
namespace Go.AM
theorem look_append_none {E E':List Ent} {X:Nat→Bool} {t:Nat} (h:look E X t=none):look (E++E') X t=look E' X t:=by
 induction E with
 |nil=>rfl
 |cons p E ih=>
  obtain⟨i,d,v⟩:=p
  simp only[look,List.cons_append]at h⊢
  cases hb:(Nat.beq d t&&X i)with
  |true=>rw[hb]at h;cases h
  |false=>rw[hb]at h;simp only[cond_false]at h⊢;exact ih h
theorem look_append_some {E E':List Ent} {X:Nat→Bool} {t:Nat} {v:AV} (h:look E X t=some v):look (E++E') X t=some v:=by
 induction E with
 |nil=>cases h
 |cons p E ih=>
  obtain⟨i,d,u⟩:=p
  simp only[look,List.cons_append]at h⊢
  cases hb:(Nat.beq d t&&X i)with
  |true=>rw[hb]at h;simpa using h
  |false=>rw[hb]at h;simp only[cond_false]at h⊢;exact ih h
theorem look_mem {E:List Ent} {X:Nat→Bool} {t:Nat} {v:AV} (h:look E X t=some v): ∃i,(i,t,v)∈E∧X i=true:=by
 induction E with
 |nil=>cases h
 |cons p E ih=>
  obtain⟨i,d,u⟩:=p
  simp only[look]at h
  cases hb:(Nat.beq d t&&X i)with
  |true=>
   rw[hb]at h
   simp only[cond_true,Option.some.injEq]at h
   simp only[Bool.and_eq_true]at hb
   obtain rfl:=Nat.eq_of_beq_eq_true hb.1
   subst h
   exact⟨i,by simp,hb.2⟩
  |false=>
   rw[hb]at h
   obtain⟨k,h1,h2⟩:=ih h
   exact⟨k,by simp [h1],h2⟩
def Apart (E:List Ent):Prop:=E.Pairwise fun p q=>p.2.1 ≠q.2.1
theorem look_of_mem {E:List Ent} (hE:Apart E) {X:Nat→Bool} {i t:Nat} {v:AV} (h:(i,t,v)∈E) (hX:X i=true):look E X t=some v:=by
 induction E with
 |nil=>cases h
 |cons p E ih=>
  obtain⟨k,d,u⟩:=p
  obtain⟨h1,h2⟩:=List.pairwise_cons.1 hE
  simp only[look]
  rcases List.mem_cons.1 h with h|h
  ·cases h
   simp [hX]
  ·have hne:d≠t:=h1 _ h
   have:Nat.beq d t=false:=by
    cases hb:Nat.beq d t with
    |true=>exact absurd (Nat.eq_of_beq_eq_true hb) hne
    |false=>rfl
   rw[this]
   exact ih h2 h
theorem look_none_of {E:List Ent} (hE:Apart E) {X:Nat→Bool} {i t:Nat} {v:AV} (h:(i,t,v)∈E) (hX:X i=false):look E X t=none:=by
 cases hl:look E X t with
 |none=>rfl
 |some u=>
  obtain⟨k,h1,h2⟩:=look_mem hl
  have:(k,t,u)=(i,t,v):=by
   clear hl
   induction E with
   |nil=>cases h
   |cons p E ih=>
    obtain⟨g1,g2⟩:=List.pairwise_cons.1 hE
    rcases List.mem_cons.1 h with e|e<;>rcases List.mem_cons.1 h1 with e1|e1
    ·rw[e,e1]
    ·subst e;exact((g1 (k,t,u) e1) rfl).elim
    ·subst e1;exact((g1 (i,t,v) e) rfl).elim
    ·exact ih g2 e e1
  cases this
  rw[hX]at h2;cases h2
theorem over_length (E:List Ent) (X:Nat→Bool): ∀(n:Nat) (st:St),(over E X n st).length=st.length:=by
 intro n st
 induction st generalizing n with
 |nil=>rfl
 |cons a st ih=>simp [over,ih]
theorem over_get (E:List Ent) (X:Nat→Bool): ∀(n:Nat) (st:St) (t:Nat) (h:t<st.length),(over E X n st)[t]? =some ((look E X (n+t)).getD st[t]):=by
 intro n st
 induction st generalizing n with
 |nil=>intro t h;simp at h
 |cons a st ih=>
  intro t h
  cases t with
  |zero=>simp only[over,List.getElem?_cons_zero,Nat.add_zero,List.getElem_cons_zero];cases look E X n<;>rfl
  |succ t=>
   simp only[over,List.getElem?_cons_succ,List.getElem_cons_succ]
   rw[ih (n+1) t (by simpa using h),Nat.add_assoc,Nat.add_comm 1 t]
theorem over_at (E:List Ent) (X:Nat→Bool) (st:St) (t:Nat):St.at (over E X 0 st) t=if t<st.length then(look E X t).getD (st.at t)else .one .junk:=by
 by_cases h:t<st.length
 ·rw[if_pos h]
  unfold St.at
  rw[List.getD_eq_getElem?_getD,over_get E X 0 st t h,Nat.zero_add]
  simp [h]
 ·rw[if_neg h]
  exact St.at_out _ _ (by rw[over_length];omega)
theorem over_congr {E E':List Ent} {X X':Nat→Bool} (h: ∀t,look E X t=look E' X' t): ∀(n:Nat) (st:St),over E X n st=over E' X' n st:=by
 intro n st
 induction st generalizing n with
 |nil=>rfl
 |cons a st ih=>simp only[over,h,ih]
theorem refine_eq {E:List Ent} (hE:Apart E) {X:Nat→Bool} {s:Nat} {b:Bool} (h: ∀v,look E X s=some v→v= .one (.bool b)):refine s X b E=E:=by
 have key: ∀E',(∀p,p∈E'→p∈E)→refine s X b E'=E':=by
  intro E' hE'
  induction E' with
  |nil=>rfl
  |cons p E' ih=>
   obtain⟨i,d,v⟩:=p
   simp only[refine]
   rw[ih fun q hq=>hE' q (by simp [hq])]
   cases hb:(Nat.beq d s&&X i)with
   |false=>rfl
   |true=>
    simp only[Bool.and_eq_true]at hb
    obtain rfl:=Nat.eq_of_beq_eq_true hb.1
    rw[h v (look_of_mem hE (hE' _ (by simp)) hb.2)]
    rfl
 exact key E fun _ h=>h
section
variable {P:Program} {mine:Cx} {w0:World} {st:St} {a:Act} {w:World} {μ:Locs} {ok:OK} {tb:Tab} {Γ:Orc}
theorem Facts.less {tm:Array Value} (F:Facts mine w0 st tm w μ ok) {st':St} (hl:st'.length≤st.length) (hm:mine.n≤st'.length∧mine.m≤st'.length)
 (h: ∀i,st'.at i=st.at i∨(st'.at i= .one .junk∧((st.at i).isGho=false∨st'.length≤i))∨(st'.at i= .gho .none∧(st.at i).isGho=true)):Facts mine w0 st' tm w μ ok:=by
 have how: ∀i,st'.ow i=st.ow i∨st'.ow i= .one .junk:=fun i=>by
  unfold St.ow
  rcases h i with e|⟨e,_⟩|⟨e,_⟩
  ·rw[e];exact .inl rfl
  ·rw[e];exact .inr rfl
  ·rw[e];exact .inr rfl
 have hown: ∀i,(st'.ow i).isOwner=true→(st.ow i).isOwner=true:=fun i hi=>by
  rcases how i with e|e
  ·rwa [e]at hi
  ·rw[e]at hi;cases hi
 refine⟨fun i=> ?_,fun i=> ?_,F.size,fun i h1 h2=> ?_,fun i h1=> ?_,hm,F.pin,fun i b h1 h2=>F.ownB i b (hown i h1) h2,fun i j b h1 h2=>F.inj i j b (hown i h1) (hown j h2),F.okB,F.okT,F.okF,F.okS,F.fr⟩
 ·rcases h i with e|⟨e,_⟩|⟨e,_⟩
  ·rw[e];exact F.slots i
  ·rw[e];trivial
  ·rw[e];trivial
 ·rcases how i with e|e
  ·rw[e];exact F.owns i
  ·rw[e];trivial
 ·rcases h i with e|⟨e,e'⟩|⟨e,_⟩
  ·rw[e];exact F.gho i h1 (by omega)
  ·rcases e' with e'|e'
   ·rw[F.gho i h1 (by omega)]at e';cases e'
   ·omega
  ·rw[e];rfl
 ·rcases h i with e|⟨e,_⟩|⟨e,e'⟩
  ·rw[e];exact F.real i h1
  ·rw[e];rfl
  ·rw[F.real i h1]at e';cases e'
theorem SV.kill_id {d:Nat} {v:SV} (h:v.refers d=false):v.kill d=v:=by unfold SV.kill;rw[h];rfl
theorem map_kill_id {d:Nat} {cs:List SV} (h:cs.any (SV.refers d)=false):cs.map (SV.kill d)=cs:=by
 induction cs with
 |nil=>rfl
 |cons c cs ih=>
  simp only[List.any_cons,Bool.or_eq_false_iff]at h
  simp [SV.kill_id h.1,ih h.2]
theorem AV.kill_id {d:Nat} {v:AV} (h:v.refers d=false):v.kill d=v:=by
 cases v with
 |one x=>simp only[AV.kill,SV.kill_id (show x.refers d=false from h)]
 |agg cs=>simp only[AV.kill,map_kill_id (show cs.any (SV.refers d)=false from h)]
 |own cs=>simp only[AV.kill,map_kill_id (show cs.any (SV.refers d)=false from h)]
 |gho o=>
  cases o with
  |own cs=>simp only[AV.kill,map_kill_id (show cs.any (SV.refers d)=false from h)]
  |_=>rfl
 |arr f t xs=>rfl
 |mapO f kt vt es=>rfl
 |tup l=>
  simp only[AV.kill]
  congr 1
  have h':l.any (fun p=>p.2.any (SV.refers d))=false:=h
  clear h
  induction l with
  |nil=>rfl
  |cons p l ih=>
   simp only[List.any_cons,Bool.or_eq_false_iff]at h'
   simp [map_kill_id h'.1,ih h'.2]
theorem St.kill_id {st:St} {d:Nat} (h: ∀i,(st.at i).refers d=false):st.kill d=st:=by
 unfold St.kill
 apply List.ext_getElem?
 intro i
 rw[List.getElem?_map]
 cases hi:st[i]? with
 |none=>rfl
 |some v=>
  have:=h i
  unfold St.at at this
  rw[List.getD_eq_getElem?_getD,hi]at this
  simp only[Option.map_some]
  rw[AV.kill_id (show v.refers d=false from this)]
def Res (P:Program) (mine:Cx) (w0:World) (ops:Array Oper) (i d:Nat) (v:AV) (st:St):Prop:=
 ∀(a:Act) (w:World) (μ:Locs) (ok:OK) (Q:Exit→Act→World→Prop) (next:Act→World→Prop),Facts mine w0 st a.tmps w μ ok→
  (∀w1 ok1 x,Facts mine w0 st a.tmps w1 μ ok1→NewRel mine w0 st w1 μ ok1 v x→Grow w ok w1 ok1 v x→next ⟨a.tmps.setIfInBounds d x,a.defers⟩ w1)→wpOp P ops Q i next a w
theorem res_ev (hP:TabOk P tb) (hΓ:OrcFit P Γ mine) {ops:Array Oper} {i d:Nat} {o:Oper} (hi:ops[i]? =some o) (hd:o.dst=some d) (hw: ∀(a:Act) w μ ok,Facts mine w0 st a.tmps w μ ok→Region.wanted o (yielded ops a.tmps)=true)
 {v:AV} (h:ev tb Γ st o.op=some (true,v)):Res P mine w0 ops i d v st:=by
 intro a w μ ok Q next F hn
 unfold wpOp
 simp only[hi]
 rw[if_pos (hw a w μ ok F)]
 refine .inl (ev_sound hP hΓ F h fun w1 ok1 x F1 hx hg=> ?_)
 have hput:a.put o.dst x=⟨a.tmps.setIfInBounds d x,a.defers⟩:=by rw[hd];rfl
 rw[hput]
 exact hn w1 ok1 x F1 hx hg
theorem res_skip {ops:Array Oper} {i d:Nat} {o:Oper} (hi:ops[i]? =some o) (hd:o.dst=some d) (hw: ∀(a:Act) w μ ok,Facts mine w0 st a.tmps w μ ok→Region.wanted o (yielded ops a.tmps)=false):Res P mine w0 ops i d (.tup []) st:=by
 intro a w μ ok Q next F hn
 unfold wpOp
 simp only[hi]
 rw[if_neg (by rw[hw a w μ ok F];simp)]
 have hput:a.put o.dst undef=⟨a.tmps.setIfInBounds d undef,a.defers⟩:=by rw[hd];rfl
 rw[hput]
 exact hn w ok undef F ⟨[],rfl,.nil⟩ (.refl rfl)
theorem wanted_none {o:Oper} (h:o.guard=none) (f:Nat→Option Bool):Region.wanted o f=true:=by simp [Region.wanted,h]
theorem wanted_bool (F:Facts mine w0 st a.tmps w μ ok) {ops:Array Oper} {o:Oper} {j s:Nat} {want b:Bool} (hg:o.guard=some (j,want)) (hs:guardSlot ops.toList j=some s) (hb:st.at s= .one (.bool b)):
 Region.wanted o (yielded ops a.tmps)=(b==want):=by
 have hsl:(ops[j]?).bind (·.dst)=some s:=by
  unfold guardSlot at hs
  simp only[Array.getElem?_toList]at hs
  cases hj:ops[j]? with
  |none=>rw[hj]at hs;cases hs
  |some oj=>rw[hj]at hs;exact hs
 have hslot:=F.slots s
 rw[hb]at hslot
 have hval:a.tmps.getD s undef= .bool b:=hslot
 simp only[Region.wanted,hg,yielded,hsl,Option.bind_some,getD_bool hval]
 cases b<;>cases want<;>rfl
theorem wanted_tup (F:Facts mine w0 st a.tmps w μ ok) {ops:Array Oper} {o:Oper} {j s:Nat} {want:Bool} (hg:o.guard=some (j,want)) (hs:guardSlot ops.toList j=some s) (hb:st.at s= .tup []):
 Region.wanted o (yielded ops a.tmps)=false:=by
 have hsl:(ops[j]?).bind (·.dst)=some s:=by
  unfold guardSlot at hs
  simp only[Array.getElem?_toList]at hs
  cases hj:ops[j]? with
  |none=>rw[hj]at hs;cases hs
  |some oj=>rw[hj]at hs;exact hs
 have hslot:=F.slots s
 rw[hb]at hslot
 obtain⟨vs,hval,hvs⟩:=hslot
 cases hvs
 simp only[Region.wanted,hg,yielded,hsl,Option.bind_some]
 rw[Array.getD_eq_getD_getElem?]at hval
 cases hs':a.tmps[s]? with
 |none=>rfl
 |some v=>
  rw[hs']at hval
  simp at hval
  subst hval;rfl
variable {ρ:Type} [Same ρ] {out:ρ}
structure Ents (P:Program) (mine:Cx) (w0:World) (ops:Array Oper) (A:List (List Nat)) (base:St) (lo:Nat) (E:List Ent):Prop where
 apart:Apart E
 ent: ∀p,p∈E→p.1<lo∧(∃o,ops[p.1]? =some o∧o.dst=some p.2.1)∧(base.at p.2.1 = .one .junk∧p.2.2.isGho =false)∧Res P mine w0 ops p.1 p.2.1 p.2.2 (over E (inL (ancs A p.1)) 0 base)
theorem inL_mem {l:List Nat} {i:Nat}:inL l i=true↔i∈l:=by
 induction l with
 |nil=>simp [inL]
 |cons a l ih=>
  simp only[inL,Bool.or_eq_true,ih,List.mem_cons]
  constructor
  ·rintro(h|h)
   ·exact .inl (Nat.eq_of_beq_eq_true h).symm
   ·exact .inr h
  ·rintro(h|h)
   ·subst h;exact .inl (Nat.beq_refl i)
   ·exact .inr h
def AncLt (A:List (List Nat)) (ops:Array Oper):Prop:= ∀i o,ops[i]? =some o→(∀e∈o.after,Region.binds .any e=true→e.on<i)∧
 ∀x,inL (ancs A i) x=true→x<i∧ ∃e∈o.after,Region.binds .any e=true∧(e.on=x∨inL (ancs A e.on) x=true)
theorem chkA_spec {ops:Array Oper} {A:List (List Nat)} (h:chkA ops.toList A 0 ops.toList=true):AncLt A ops:=by
 have key: ∀(l:List Oper) (i:Nat),chkA ops.toList A i l=true→ ∀j o,l[j]? =some o→(∀e∈o.after,Region.binds .any e=true→e.on<i+j)∧
  ∀x,inL (ancs A (i+j)) x=true→x<i+j∧ ∃e∈o.after,Region.binds .any e=true∧(e.on=x∨inL (ancs A e.on) x=true):=by
  intro l
  induction l with
  |nil=>intro i _ j o hj;simp at hj
  |cons o l ih=>
   intro i h j o' hj
   simp only[chkA,Bool.and_eq_true,List.all_eq_true]at h
   obtain⟨⟨h1,h2⟩,h3⟩:=h
   cases j with
   |zero=>
    simp only[List.getElem?_cons_zero,Option.some.injEq]at hj
    subst hj
    refine⟨fun e he hb=> ?_,fun x hx=> ?_⟩
    ·have:=h1 e (by simpa using he)
     rw[hb]at this
     simpa [Nat.blt_eq]using this
    ·have:=h2 x (inL_mem.1 hx)
     simp only[List.any_eq_true,Bool.and_eq_true,Bool.or_eq_true]at this
     obtain⟨g1,e,g2,g3,g4⟩:=this
     exact⟨by simpa [Nat.blt_eq]using g1,e,by simpa using g2,g3,g4.imp Nat.eq_of_beq_eq_true id⟩
   |succ j=>
    have:=ih (i+1) h3 j o' (by simpa using hj)
    rwa [Nat.add_assoc,Nat.add_comm 1 j]at this
 intro i o hi
 have:=key ops.toList 0 h i o (by simpa using hi)
 simpa using this
theorem Ents.add {ops:Array Oper} {A:List (List Nat)} {base:St} {lo:Nat} {E:List Ent} (hA:AncLt A ops) (hE:Ents P mine w0 ops A base lo E) {i d:Nat} {v:AV} {o:Oper} (hi:ops[i]? =some o) (hd:o.dst=some d)
 (hlo:lo≤i) (hj:base.at d= .one .junk) (hgv:v.isGho=false) (hl:(look E (fun _=>true) d).isNone=true) (hr:Res P mine w0 ops i d v (over E (inL (ancs A i)) 0 base)):Ents P mine w0 ops A base (i+1) (E++[(i,d,v)]):=by
 have same: ∀k ok,ops[k]? =some ok→k≤i→over (E++[(i,d,v)]) (inL (ancs A k)) 0 base=over E (inL (ancs A k)) 0 base:=by
  intro k ok hk hki
  refine over_congr (fun t=> ?_) 0 base
  have hX:inL (ancs A k) i=false:=by
   cases hx:inL (ancs A k) i with
   |false=>rfl
   |true=>have:=((hA k ok hk).2 i hx).1;omega
  cases hl:look E (inL (ancs A k)) t with
  |some u=>exact look_append_some hl
  |none=>
   rw[look_append_none hl]
   simp [look,hX]
 refine⟨?_,fun p hp=> ?_⟩
 ·unfold Apart
  rw[List.pairwise_append]
  refine⟨hE.apart,by simp,fun p hp q hq=> ?_⟩
  simp only[List.mem_singleton]at hq
  subst hq
  intro e
  have e:p.2.1 =d:=e
  have:=look_of_mem (X:=fun _=>true) hE.apart (i:=p.1) (t:=d) (v:=p.2.2) (by rw[←e];exact hp) rfl
  rw[this]at hl
  cases hl
 ·rcases List.mem_append.1 hp with hp|hp
  ·obtain⟨h1,⟨o',h2,h3⟩,h4,h5⟩:=hE.ent p hp
   exact⟨by omega,⟨o',h2,h3⟩,h4,by rw[same _ o' h2 (by omega)];exact h5⟩
  ·simp only[List.mem_singleton]at hp
   subst hp
   exact⟨Nat.lt_succ_self i,⟨o,hi,hd⟩,⟨hj,hgv⟩,by rw[same i o hi (Nat.le_refl i)];exact hr⟩
theorem Ents.add2 {ops:Array Oper} {A:List (List Nat)} {base:St} {lo:Nat} {E:List Ent} (hA:AncLt A ops) (hE:Ents P mine w0 ops A base lo E) {i d:Nat} {v:AV} {o:Oper} (hi:ops[i]? =some o) (hd:o.dst=some d)
 (hnw: ∀p∈E,inL (ancs A p.1) i=false) (hj:base.at d= .one .junk) (hgv:v.isGho=false) (hl:(look E (fun _=>true) d).isNone=true) (hr:Res P mine w0 ops i d v (over E (inL (ancs A i)) 0 base)):Ents P mine w0 ops A base (max lo (i+1)) (E++[(i,d,v)]):=by
 have same: ∀k,inL (ancs A k) i=false→over (E++[(i,d,v)]) (inL (ancs A k)) 0 base=over E (inL (ancs A k)) 0 base:=by
  intro k hX
  refine over_congr (fun t=> ?_) 0 base
  cases hl:look E (inL (ancs A k)) t with
  |some u=>exact look_append_some hl
  |none=>
   rw[look_append_none hl]
   simp [look,hX]
 have hself:inL (ancs A i) i=false:=by
  cases hx:inL (ancs A i) i with
  |false=>rfl
  |true=>have:=((hA i o hi).2 i hx).1;omega
 refine⟨?_,fun p hp=> ?_⟩
 ·unfold Apart
  rw[List.pairwise_append]
  refine⟨hE.apart,by simp,fun p hp q hq=> ?_⟩
  simp only[List.mem_singleton]at hq
  subst hq
  intro e
  have e:p.2.1 =d:=e
  have:=look_of_mem (X:=fun _=>true) hE.apart (i:=p.1) (t:=d) (v:=p.2.2) (by rw[←e];exact hp) rfl
  rw[this]at hl
  cases hl
 ·rcases List.mem_append.1 hp with hp|hp
  ·obtain⟨h1,⟨o',h2,h3⟩,h4,h5⟩:=hE.ent p hp
   exact⟨by omega,⟨o',h2,h3⟩,h4,by rw[same _ (hnw p hp)];exact h5⟩
  ·simp only[List.mem_singleton]at hp
   subst hp
   exact⟨by show i<max lo (i+1);omega,⟨o,hi,hd⟩,⟨hj,hgv⟩,by rw[same i hself];exact hr⟩
theorem drawS_sound (hP:TabOk P tb) (hΓ:OrcFit P Γ mine) {ops:Array Oper} {A:List (List Nat)} (hA:AncLt A ops) {base:St}: ∀(S:List (Nat×Oper)) (lo:Nat) (E:List Ent) (K:List Ent→Option ρ),
 (∀p∈S,ops[p.1]? =some p.2)→Ents P mine w0 ops A base lo E→drawS tb Γ ops.toList A base S lo E K=some out→
 ∃E' lo',Ents P mine w0 ops A base lo' E'∧E'.map (·.1)=E.map (·.1)++S.map (·.1)∧K E'=some out:=by
 intro S
 induction S with
 |nil=>intro lo E K _ hE h;exact⟨E,lo,hE,by simp,h⟩
 |cons p S ih=>
  intro lo E K hS hE h
  obtain⟨i,o⟩:=p
  have hi:ops[i]? =some o:=hS (i,o) (by simp)
  simp only[drawS]at h
  split at h
  ·cases h
  rename_i d hd
  cases hc:(Nat.ble lo i&&isJ (base.at d)&&(look E (fun _=>true) d).isNone)with
  |false=>rw[hc]at h;cases h
  |true=>
   rw[hc]at h
   simp only[cond_true]at h
   simp only[Bool.and_eq_true]at hc
   obtain⟨⟨hlo,hj⟩,hl⟩:=hc
   have hlo:=Nat.le_of_ble_eq_true hlo
   have hj:base.at d= .one .junk:=by
    cases hb:base.at d with
    |one x=>cases x<;>first|rfl|(rw[hb]at hj;cases hj)
    |_=>rw[hb]at hj;cases hj
   have done: ∀v:AV,v.isGho=false→Res P mine w0 ops i d v (over E (inL (ancs A i)) 0 base)→drawS tb Γ ops.toList A base S (i+1) (E++[(i,d,v)]) K=some out→
    ∃E' lo',Ents P mine w0 ops A base lo' E'∧E'.map (·.1)=E.map (·.1)++((i,o)::S).map (·.1)∧K E'=some out:=by
    intro v hgv hr h
    obtain⟨E',lo',g1,g2,g3⟩:=ih (i+1) _ K (fun p hp=>hS p (by simp [hp])) (hE.add hA hi hd hlo hj hgv hl hr) h
    exact⟨E',lo',g1,by rw[g2];simp,g3⟩
   have does:(∀(a:Act) w μ ok,Facts mine w0 (over E (inL (ancs A i)) 0 base) a.tmps w μ ok→Region.wanted o (yielded ops a.tmps)=true)→
    evS tb Γ (over E (inL (ancs A i)) 0 base) o.op (fun v=>drawS tb Γ ops.toList A base S (i+1) (E++[(i,d,v)]) K)=some out→
    ∃E' lo',Ents P mine w0 ops A base lo' E'∧E'.map (·.1)=E.map (·.1)++((i,o)::S).map (·.1)∧K E'=some out:=by
    intro hw h
    unfold evS at h
    split at h
    ·rename_i g v he
     cases g with
     |false=>cases h
     |true=>
      cases hgv:v.isGho with
      |true=>simp only[cond_true,hgv]at h;cases h
      |false=>
       simp only[cond_true,hgv,cond_false]at h
       exact done v hgv (res_ev hP hΓ hi hd hw he) h
    ·cases h
   split at h
   ·rename_i hg
    exact does (fun a w μ ok _=>wanted_none hg _) h
   ·rename_i j want hg
    split at h
    ·cases h
    rename_i s hs
    split at h
    ·rename_i b hb
     have href:refine s (inL (ancs A i)) b E=E:=by
      refine refine_eq hE.apart fun v hv=> ?_
      rw[over_at]at hb
      by_cases hlt:s<base.length
      ·rw[if_pos hlt,hv]at hb;exact hb
      ·rw[if_neg hlt]at hb;cases hb
     cases b with
     |true=>
      simp only[cond_true]at h
      rw[href]at h
      cases want with
      |true=>exact does (fun a w μ ok F=>by rw[wanted_bool F hg hs hb];rfl) h
      |false=>exact done _ rfl (res_skip hi hd fun a w μ ok F=>by rw[wanted_bool F hg hs hb];rfl) h
     |false=>
      simp only[cond_false]at h
      rw[href]at h
      cases want with
      |true=>exact done _ rfl (res_skip hi hd fun a w μ ok F=>by rw[wanted_bool F hg hs hb];rfl) h
      |false=>exact does (fun a w μ ok F=>by rw[wanted_bool F hg hs hb];rfl) h
    ·rename_i hb
     exact done _ rfl (res_skip hi hd fun a w μ ok F=>wanted_tup F hg hs hb) h
    ·cases h
def unl (ops:Array Oper) (listed:Array Bool):Nat:=(List.range ops.size).countP fun i=> !listed.getD i true
theorem unl_set {ops:Array Oper} {listed:Array Bool} {j:Nat} (hj:j<ops.size) (hl:listed.getD j true=false):unl ops (listed.setIfInBounds j true)<unl ops listed:=by
 have key: ∀l:List Nat,(l.countP (fun i=> !(listed.setIfInBounds j true).getD i true)≤l.countP (fun i=> !listed.getD i true))∧
  (j∈l→l.countP (fun i=> !(listed.setIfInBounds j true).getD i true)<l.countP (fun i=> !listed.getD i true)):=by
  intro l
  induction l with
  |nil=>simp
  |cons a l ih=>
   simp only[List.countP_cons]
   by_cases ha:a=j
   ·subst ha
    have h1:(listed.setIfInBounds a true).getD a true=true:=by
     rcases Nat.lt_or_ge a listed.size with h|h
     ·simp [h]
     ·simp [Array.getElem?_eq_none h]
    rw[h1,hl]
    simp only[Bool.not_true,Bool.false_eq_true,if_false,Bool.not_false,if_true]
    exact⟨by have:=ih.1;omega,fun _=>by have:=ih.1;omega⟩
   ·have h1:(listed.setIfInBounds j true).getD a true=listed.getD a true:=by
     simp [Array.getElem?_setIfInBounds_ne (show j≠a from fun e=>ha e.symm)]
    rw[h1]
    refine⟨by have:=ih.1;omega,fun hm=> ?_⟩
    have:j∈l:=by
     rcases List.mem_cons.1 hm with h|h
     ·exact absurd h.symm ha
     ·exact h
    have:=ih.2 this
    omega
 exact(key _).2 (List.mem_range.2 hj)
theorem getD_listed {listed:Array Bool} {n i:Nat} (hs:listed.size=n) (hi:i<n) (d:Bool):listed.getD i d=listed.getD i true:=by
 simp [Array.getD,hs,hi]
theorem ready_ne {ops:Array Oper} {A:List (List Nat)} (hA:AncLt A ops) {listed:Array Bool} (hs:listed.size=ops.size) {i:Nat} (hi:i<ops.size) (hu:listed.getD i true=false):Region.ready .any ops listed≠[]:=by
 induction i using Nat.strongRecOn with
 |_ i ih=>
  by_cases hall: ∀e∈ops[i].after,Region.binds .any e=true→listed.getD e.on false=true
  ·intro h0
   have:i∈Region.ready .any ops listed:=mem_ready.2 ⟨hu,ops[i],by simp [hi],hall⟩
   rw[h0]at this;cases this
  ·simp only[Classical.not_forall]at hall
   obtain⟨e,he,hb,hl⟩:=hall
   have hlt:=(hA i ops[i] (by simp [hi])).1 e he hb
   have hl':listed.getD e.on true=false:=by
    rw[←getD_listed hs (by omega) false]
    cases h:listed.getD e.on false with
    |true=>exact absurd h hl
    |false=>rfl
   exact ih e.on hlt (by omega) hl'
def Shut (A:List (List Nat)) (listed:Array Bool) (n:Nat):Prop:= ∀i,i<n→listed.getD i false=true→ ∀x,inL (ancs A i) x=true→listed.getD x false=true
theorem shut_ready {ops:Array Oper} {A:List (List Nat)} (hA:AncLt A ops) {listed:Array Bool} (hsh:Shut A listed ops.size) {j:Nat} (hj:j∈Region.ready .any ops listed):
 ∀x,inL (ancs A j) x=true→listed.getD x false=true:=by
 obtain⟨h0,o,ho,hall⟩:=mem_ready.1 hj
 intro x hx
 obtain⟨_,e,he,hb,hh⟩:=(hA j o ho).2 x hx
 have hl:=hall e he hb
 rcases hh with rfl|hh
 ·exact hl
 ·have hlt:=(hA j o ho).1 e he hb
  have:j<ops.size:=(Array.getElem?_eq_some_iff.1 ho).1
  exact hsh e.on (by omega) hl x hh
theorem shut_set {ops:Array Oper} {A:List (List Nat)} (hA:AncLt A ops) {listed:Array Bool} (hsh:Shut A listed ops.size) {j:Nat} (hj:j∈Region.ready .any ops listed):Shut A (listed.setIfInBounds j true) ops.size:=by
 intro i hi hl x hx
 by_cases h:i=j
 ·subst h
  exact getD_set_true (shut_ready hA hsh hj x hx)
 ·rw[getD_set_ne false (Ne.symm h)]at hl
  exact getD_set_true (hsh i hi hl x hx)
theorem runT_sound (hP:TabOk P tb) (hΓ:OrcFit P Γ mine) {ops:Array Oper} {A:List (List Nat)} (hA:AncLt A ops) {Q:Exit→Act→World→Prop}: ∀(T:List (Nat×Oper)) (L:List Nat) (fuel:Nat) (listed:Array Bool) (st:St) (a:Act) (w:World) (μ:Locs) (ok:OK) (K:St→Option ρ),
 (∀p∈T,ops[p.1]? =some p.2∧listed.getD p.1 true=false)→(T.map (·.1)).Nodup→listed.size=ops.size→(∀i,i<ops.size→listed.getD i true=false→i∈T.map (·.1))→Shut A listed ops.size→chkT A L T=true→unl ops listed≤fuel→
 Facts mine w0 st a.tmps w μ ok→runT tb Γ ops.toList T st K=some out→Goes mine w0 a.defers K out (Q .normal)→wpAny P .any ops Q fuel listed a w:=by
 intro T
 induction T with
 |nil=>
  intro L fuel listed st a w μ ok K _ _ hs hall hsh hT hf F h hn
  refine wpAny_done ?_ (hn _ _ _ _ _ F h) fuel
  cases hr:Region.ready .any ops listed with
  |nil=>rfl
  |cons j r=>
   have:j∈Region.ready .any ops listed:=by rw[hr];simp
   obtain⟨h0,o,ho,_⟩:=mem_ready.1 this
   have:=hall j (Array.getElem?_eq_some_iff.1 ho).1 h0
   cases this
 |cons p T ih=>
  intro L fuel listed st a w μ ok K hT1 hnd hs hall hsh hT hf F h hn
  obtain⟨i,o⟩:=p
  simp only[chkT,Bool.and_eq_true]at hT
  obtain⟨hio,hiu⟩:=hT1 (i,o) (by simp)
  have hi:i<ops.size:=(Array.getElem?_eq_some_iff.1 hio).1
  have hnd':=List.nodup_cons.1 (show(i::T.map (·.1)).Nodup from hnd)
  have only: ∀j∈Region.ready .any ops listed,j=i:=by
   intro j hj
   obtain⟨h0,o',ho,_⟩:=mem_ready.1 hj
   have hm:=hall j (Array.getElem?_eq_some_iff.1 ho).1 h0
   simp only[List.map_cons,List.mem_cons]at hm
   rcases hm with hm|hm
   ·exact hm
   ·exfalso
    have hwait: ∀(L:List Nat) (T:List (Nat×Oper)),chkT A L T=true→i∈L→j∈T.map (·.1)→inL (ancs A j) i=true:=by
     intro L T
     induction T generalizing L with
     |nil=>intro _ _ h;cases h
     |cons q T ih=>
      obtain⟨k,o⟩:=q
      intro h hL hj
      simp only[chkT,Bool.and_eq_true,List.all_eq_true]at h
      simp only[List.map_cons,List.mem_cons]at hj
      rcases hj with hj|hj
      ·subst hj;exact h.1 i hL
      ·exact ih _ h.2 (by simp [hL]) hj
    have:=shut_ready hA hsh hj i (hwait _ T hT.2 (by simp) hm)
    rw[getD_listed hs hi false,hiu]at this
    cases this
  have hne:=ready_ne hA hs hi hiu
  have hmem:i∈Region.ready .any ops listed:=by
   cases hr:Region.ready .any ops listed with
   |nil=>exact absurd hr hne
   |cons j r=>
    have:j∈Region.ready .any ops listed:=by rw[hr];simp
    rw[only j this];simp
  have hdec:=unl_set hi hiu
  cases fuel with
  |zero=>omega
  |succ fuel=>
   refine⟨fun h0=>absurd h0 hne,fun j hj=> ?_⟩
   rw[only j hj]
   simp only[runT]at h
   refine stepG_sound hP hΓ F hio h fun st' tm' w' μ' ok' F' h'=> ?_
   refine ih (i::L) fuel _ st' ⟨tm',a.defers⟩ w' μ' ok' K (fun q hq=> ?_) hnd'.2 (by simp [hs]) (fun k hk hu=> ?_) (shut_set hA hsh hmem) hT.2 (by omega) F' h' hn
   ·obtain⟨g1,g2⟩:=hT1 q (by simp [hq])
    refine⟨g1, ?_⟩
    rw[getD_set_ne true (fun e=>hnd'.1 (List.mem_map.2 ⟨q,hq,e.symm⟩))]
    exact g2
   ·have hki:i≠k:=by
     intro e;subst e
     have:(listed.setIfInBounds i true).getD i true=true:=by
      rcases Nat.lt_or_ge i listed.size with h|h
      ·simp [h]
      ·simp [Array.getElem?_eq_none h]
     rw[this]at hu;cases hu
    rw[getD_set_ne true hki]at hu
    have:=hall k hk hu
    simp only[List.map_cons,List.mem_cons]at this
    rcases this with h|h
    ·exact absurd h.symm hki
    ·exact h
theorem chkE_spec {A:List (List Nat)} {base:St} {E:List Ent} (h:chkE A base E=true) {j d:Nat} {v:AV} (hj:(j,d,v)∈E) (ho:v.isOwner=true):
 (∀i,(base.at i).refers d=false)∧ ∀k d' u,(k,d',u)∈E→inL (ancs A k) j=false→u.refers d=false:=by
 simp only[chkE,List.all_eq_true]at h
 have h1:=h _ hj
 simp only[ho,Bool.not_true,Bool.false_or,Bool.and_eq_true,List.all_eq_true]at h1
 refine⟨fun i=> ?_,fun k d' u hk hA=> ?_⟩
 ·rcases Nat.lt_or_ge i base.length with hi|hi
  ·have:=h1.1 (base.at i) (by unfold St.at;simp [List.getD_eq_getElem?_getD,hi])
   simpa using this
  ·rw[St.at_out _ _ hi];rfl
 ·have:=h1.2 _ hk
  simp only[hA,Bool.false_or]at this
  simpa using this
theorem hoistV_sound (hP:TabOk P tb) (F:Facts mine w0 st a.tmps w μ ok) {o:Oper} {v:AV} (h:hoistV tb st o.op=some v): ∃x,(∀w',(execOp a.eval o).run P w'= .ok (.value x) w')∧AVRel w μ ok v x∧v.isOwner=false:=by
 unfold hoistV at h
 split at h
 ·rename_i x ho
  cases h
  exact⟨a.eval x,fun w'=>by simp [execOp,ho],rd_rel F x,rd_notOwner st x⟩
 ·rename_i args ts ho
  split at h
  ·rename_i v' hnm he
   cases h
   have hargs:args.map a.eval=(args.toList.map a.eval).toArray:=by apply Array.ext';simp
   have hx:=all2_rd F args.toList
   obtain⟨vs,hvs⟩: ∃vs,vs=args.toList.map a.eval:=⟨_,rfl⟩
   rw[←hvs]at hx hargs
   revert he hx
   generalize args.toList.map (rd st)=xs
   intro he hx
   have run: ∀x,(∀w',(Builtin.len_ ts o.type vs.toArray).run P w'= .ok x w')→ ∀w',(execOp a.eval o).run P w'= .ok (.value x) w':=by
    intro x h w'
    simp only[execOp,ho,resolve,Sem.run_bind,Sem.run_pure,Result.andThen_ok,invoke,hargs,builtin,h]
   unfold evBuiltin at he
   cases hx with
   |nil=>cases he
   | @cons x xv xs vs' hx ht=>
     cases ht with
     |cons _ _=>cases x<;>cases he
     |nil=>
      cases x with
      |one x=>
       simp only at he
       split at he
       ·rename_i T r hts
        have hts':ts=(T::r).toArray:=by rw[←hts]
        split at he
        ·rename_i z hT
         split at he
         ·rename_i s
          cases he
          obtain⟨rfl,hs⟩:=(hx:SVRel w μ ok (.str s) xv)
          obtain⟨i,d,zv,_,_,h3,_,_,_,_,_,_,h9⟩:=hP T _ hT
          rw[h9 _ rfl]at h3
          refine⟨.int .i64 s.size,run _ fun w'=> ?_,⟨rfl, ?_⟩,rfl⟩
          ·rw[hts'];simp [Builtin.len_,underlying,h3,goInt]
          ·unfold IntKind.has IntKind.min IntKind.max;simp [IntKind.signed,IntKind.bits];omega
         ·cases he
        ·rename_i e t b hT
         split at he
         ·rename_i n hn
          cases he
          have hj:x≠ .junk:=by intro e;subst e;cases hn
          obtain⟨A,c,rfl,hb⟩:=lenSl_rel F (one_of hj hx) hn
          obtain⟨i,ei,ze,_,_,_,h4,_⟩:=hP T _ hT
          refine⟨.int .i64 n,run _ fun w'=> ?_,⟨rfl, ?_⟩,rfl⟩
          ·rw[hts'];simp [Builtin.len_,underlying,h4,goInt]
          ·unfold IntKind.has IntKind.min IntKind.max;simp [IntKind.signed,IntKind.bits];omega
         ·cases he
        ·rename_i kt vt hT
         rw[hts]at hnm
         simp [isMapT,hT]at hnm
        ·cases he
       ·cases he
      |agg cs=>cases he
      |tup l=>cases he
      |own cs=>cases he
      |arr f t xs=>cases he
      |mapO f kt vt es=>cases he
      |gho o=>cases he
  ·cases h
 ·cases h
theorem hoistW_sound (hP:TabOk P tb) (F:Facts mine w0 st a.tmps w μ ok) {o:Oper} {v:AV} (h:hoistW tb st o.op=some (true,v)): ∃x,(∀w',(execOp a.eval o).run P w'= .ok (.value x) w')∧AVRel w μ ok v x∧v.isOwner=false:=by
 unfold hoistW at h
 split at h
 ·rename_i op T x y T' ho
  split at h
  ·rename_i k p k' q hx hy
   cases hk:ikEq k k' with
   |false=>rw[hk]at h;cases h
   |true=>
    rw[hk]at h
    simp only[cond_true]at h
    obtain rfl:=ikEq_eq hk
    split at h
    ·rename_i g sv he
     simp only[Option.some.injEq,Prod.mk.injEq]at h
     obtain⟨rfl,rfl⟩:=h
     have r1:=rd_rel F x
     have r2:=rd_rel F y
     rw[hx]at r1
     rw[hy]at r2
     obtain⟨e1,h1⟩:=(r1:SVRel w μ ok (.int k p) (a.eval x))
     obtain⟨e2,h2⟩:=(r2:SVRel w μ ok (.int k q) (a.eval y))
     obtain⟨z,hz,hr⟩:=evInt_rel (P:=P) (w:=w) (μ:=μ) (ok:=ok) h1 h2 he
     refine⟨z,fun w'=> ?_, ?_,rfl⟩
     ·have hg: ∀w',(eqGuard op T x y (.int k p) (.int k q)).run P w'= .ok () w':=by intro w';unfold eqGuard;cases op<;>simp
      simp only[execOp,ho,e1,e2,Sem.run_bind,hg,hz,Result.andThen_ok,Sem.run_pure]
     ·by_cases hj:sv= .junk
      ·subst hj;trivial
      ·rw[AVRel.eq1 hj];exact hr
    ·cases h
  ·cases h
 ·rename_i c x y ho
  split at h
  ·rename_i b hc
   have e1:=rd_bool F hc
   split at h
   ·rename_i p q h2 h3
    cases h
    have e2:=rd_bool F h2
    have e3:=rd_bool F h3
    refine⟨.bool (cond b p q),fun w'=> ?_,rfl,rfl⟩
    cases b<;>simp [execOp,ho,e1,e2,e3,asBool]
   ·split at h
    ·cases h
     exact⟨a.eval x,fun w'=>by simp [execOp,ho,e1,asBool],rd_rel F x,rd_notOwner st x⟩
    ·cases h
     exact⟨a.eval y,fun w'=>by simp [execOp,ho,e1,asBool],rd_rel F y,rd_notOwner st y⟩
  ·cases h
 ·rename_i x ho
  split at h
  ·rename_i s o' hx
   cases h
   obtain⟨b,g1,e⟩:=rd_one F hx (by simp)
   exact⟨_,fun w'=>by simp [execOp,ho,e],⟨b,g1,rfl⟩,rfl⟩
  ·cases h
 ·rename_i T x f ho
  split at h
  ·rename_i g v' he
   simp only[Option.some.injEq,Prod.mk.injEq]at h
   obtain⟨rfl,rfl⟩:=h
   have hp:=rd_rel F x
   unfold evFieldAddr at he
   split at he
   ·rename_i n z fs eqk p hT hpx
    rw[hpx]at hp
    split at he
    ·rename_i o m b hf
     split at he
     ·rename_i q hq
      simp only[Option.some.injEq,Prod.mk.injEq,true_and]at he
      subst he
      have hj:p≠ .junk:=by intro e;subst e;simp [addOff]at hq
      obtain⟨b',x',e0,h2,h3⟩:=addOff_rel (one_of hj hp) hq
      obtain⟨i,Fs,zv,_,_,e3,_,_,_,_,e8,_⟩:=hP T _ hT
      obtain⟨fd,fi,fdd,k1,k2,k3,k4,k5,_⟩:=e8 f o m b hf
      have hm: ¬m=0:=by omega
      refine⟨.pointer (some ⟨b',x'+o,none⟩),fun w'=> ?_,by rw[AVRel.eq1 h3];exact h2,rfl⟩
      simp [execOp,ho,e0,Instr.fieldAt,underlying,e3,k1,Instr.sureAddr,fieldPlace,Go.sizeOf,typeInfo,k3,k4,hm,add_none,k2]
     ·cases he
    ·cases he
   ·cases he
  ·cases h
 ·rename_i x j ho
  split at h
  ·rename_i l hx
   split at h
   ·rename_i f cs hl
    split at h
    ·rename_i v' hv
     cases h
     have hr:=rd_rel F x
     rw[hx]at hr
     obtain⟨vs,e0,hh⟩:=hr
     obtain⟨y,h1,h2⟩:=hh.get j _ hl
     have hrun: ∀w',(execOp a.eval o).run P w'= .ok (.value y) w':=fun w'=>by simp [execOp,ho,e0,Instr.extract,h1]
     cases f with
     |true=>
      obtain⟨us,rfl,hu⟩:=h2
      obtain⟨ho',hr⟩:=asVal_rel hu hv
      rcases hr with⟨_,hr⟩|⟨e,_⟩
      ·exact⟨_,hrun,hr,ho'⟩
      ·cases e
     |false=>
      obtain⟨y',rfl,hy⟩:=h2
      obtain⟨ho',hr⟩:=asVal_rel (.cons hy .nil) hv
      rcases hr with⟨e,_⟩|⟨_,x',e,hr⟩
      ·cases e
      ·cases e;exact⟨_,hrun,hr,ho'⟩
    ·cases h
   ·cases h
  ·cases h
 ·split at h
  ·rename_i v' hv
   cases h
   exact hoistV_sound hP F hv
  ·cases h
def LateF (tb:Tab) (ops:Array Oper) (A:List (List Nat)) (base:St) (T:List Nat) (E:List Ent) (p:Ent):Prop:=
 ∃o,ops[p.1]? =some o∧o.guard=none∧hoistW tb (over E (inL (ancs A p.1)) 0 base) o.op=some (true,p.2.2)∧Region.free .any ops (markA ops.size (ancs A p.1)) p.1=true∧ ∀e∈o.after,Region.binds .any e=true→e.on ∉ T
theorem free_mono {ops:Array Oper} {m l:Array Bool} {i:Nat} (h: ∀j,m.getD j true=true→l.getD j true=true) (hf:Region.free .any ops m i=true):Region.free .any ops l i=true:=by
 unfold Region.free at hf⊢
 split at hf
 ·cases hf
 ·rename_i oi hi
  simp only[List.all_eq_true,List.mem_range,Bool.or_eq_true]at hf⊢
  intro j hj
  rcases hf j hj with(h1|h1)|h1
  ·exact .inl (.inl h1)
  ·exact .inl (.inr (h j h1))
  ·exact .inr h1
theorem markA_get {n:Nat} {l:List Nat} {j:Nat} (h:(markA n l).getD j true=true):n≤j∨inL l j=true:=by
 unfold markA at h
 rcases Nat.lt_or_ge j n with hj|hj
 ·right
  rw[Array.getD_eq_getD_getElem?]at h
  simpa [hj]using h
 ·exact .inl hj
theorem over_step {ops:Array Oper} {A:List (List Nat)} {base:St} {lo:Nat} {E:List Ent} (hE:Ents P mine w0 ops A base lo E) {listed:Array Bool} (hs:listed.size=ops.size) {j' d:Nat} {v:AV} (hp:(j',d,v)∈E) (hjlt:j'<ops.size)
 {tm:Array Value} (F2:Facts mine w0 (List.set (over E (fun i=>listed.getD i false) 0 base) d v) tm w μ ok):Facts mine w0 (over E (fun i=>(listed.setIfInBounds j' true).getD i false) 0 base) tm w μ ok:=by
 refine F2.less (by rw[List.length_set,over_length,over_length];exact Nat.le_refl _) (by have:=F2.len;rw[List.length_set,over_length]at this;rw[over_length];exact this) fun t=> .inl ?_
 rw[over_at,St.at_set,over_length,over_at]
 by_cases hlt:t<base.length
 ·rw[if_pos hlt,if_pos hlt]
  by_cases ht:d=t
  ·subst ht
   rw[if_pos ⟨rfl,hlt⟩,look_of_mem hE.apart hp (by
    show(listed.setIfInBounds j' true).getD j' false=true
    simp [hs,hjlt])]
   rfl
  ·rw[if_neg (fun h=>ht h.1)]
   congr 1
   cases hl:look E (fun i=>listed.getD i false) t with
   |some u=>
    obtain⟨k,h1,h2⟩:=look_mem hl
    exact look_of_mem hE.apart h1 (getD_set_true h2)
   |none=>
    cases hl':look E (fun i=>(listed.setIfInBounds j' true).getD i false) t with
    |none=>rfl
    |some u=>
     obtain⟨k,h1,h2⟩:=look_mem hl'
     have hk:j'≠k:=by
      rintro rfl
      have e2: ∀q q',q∈E→q'∈E→q.1=q'.1→q.2.1 =q'.2.1 :=by
       intro q q' hq hq' e
       obtain⟨_,⟨o1,g1,g2⟩,_⟩:=hE.ent _ hq
       obtain⟨_,⟨o2,g3,g4⟩,_⟩:=hE.ent _ hq'
       rw[e,g3]at g1
       cases g1
       rw[g4]at g2
       exact(Option.some.inj g2).symm
      exact ht (e2 _ _ hp h1 rfl)
     have h2':listed.getD k false=true:=by rwa [getD_set_ne false hk]at h2
     rw[look_of_mem (X:=fun i=>listed.getD i false) hE.apart h1 h2']at hl
     cases hl
 ·rw[if_neg hlt,if_neg hlt,if_neg]
  intro h;exact hlt (h.1▸h.2)
theorem drawn_sound (hP:TabOk P tb) (hΓ:OrcFit P Γ mine) {ops:Array Oper} {A:List (List Nat)} (hA:AncLt A ops) {Q:Exit→Act→World→Prop} {base:St} {lo:Nat} {E:List Ent} (hE:Ents P mine w0 ops A base lo E) (hC:chkE A base E=true)
 {T:List (Nat×Oper)} {L:List Nat} (hLs:L≠[]→Region.noSelect ops=true∧ ∀c a w,¬Q (.panic c) a w) (hLate: ∀p∈E,p.1∈L→LateF tb ops A base (T.map (·.1)) E p) (hdis: ∀p∈E,p.1 ∉ T.map (·.1))
 {M:List Nat} (hM: ∀p∈E,p.1∈L∨p.1∈M) (hT:chkT A M T=true) (hT1: ∀p∈T,ops[p.1]? =some p.2) (hTn:(T.map (·.1)).Nodup) {K:St→Option ρ} (hK:runT tb Γ ops.toList T (over E (fun _=>true) 0 base) K=some out):
 ∀(fuel:Nat) (listed:Array Bool) (a:Act) (w:World) (μ:Locs) (ok:OK),listed.size=ops.size→(∀p∈T,listed.getD p.1 true=false)→
 (∀i,i<ops.size→listed.getD i true=false→i∈T.map (·.1)∨i∈E.map (·.1))→Shut A listed ops.size→unl ops listed≤fuel→
 Facts mine w0 (over E (fun i=>listed.getD i false) 0 base) a.tmps w μ ok→Goes mine w0 a.defers K out (Q .normal)→wpAny P .any ops Q fuel listed a w:=by
 intro fuel
 induction fuel with
 |zero=>
  intro listed a w μ ok hs hTu hall hsh hf F hn
  have hno: ∀i,i<ops.size→listed.getD i true=true:=by
   intro i hi
   cases h:listed.getD i true with
   |true=>rfl
   |false=>have:=unl_set hi h;omega
  have hT0:T=[]:=by
   cases T with
   |nil=>rfl
   |cons p T=>
    have h1:=hTu p (by simp)
    rw[hno p.1 (Array.getElem?_eq_some_iff.1 (hT1 p (by simp))).1]at h1
    cases h1
  subst hT0
  have hover:over E (fun i=>listed.getD i false) 0 base=over E (fun _=>true) 0 base:=by
   refine over_congr (fun t=> ?_) 0 base
   cases hl:look E (fun _=>true) t with
   |none=>
    cases hl':look E (fun i=>listed.getD i false) t with
    |none=>rfl
    |some v=>
     obtain⟨i,h1,_⟩:=look_mem hl'
     rw[look_of_mem hE.apart h1 rfl]at hl;cases hl
   |some v=>
    obtain⟨i,h1,_⟩:=look_mem hl
    obtain⟨_,⟨o,ho,_⟩,_⟩:=hE.ent _ h1
    have hlt:=(Array.getElem?_eq_some_iff.1 ho).1
    exact look_of_mem hE.apart h1 (by rw[getD_listed hs hlt false];exact hno i hlt)
  rw[hover]at F
  exact runT_sound hP hΓ hA [] [] 0 listed _ a w μ ok K (by simp) (by simp) hs (fun i hi h=>by rw[hno i hi]at h;cases h) hsh rfl hf F hK hn
 |succ fuel ih=>
  intro listed a w μ ok hs hTu hall hsh hf F hn
  by_cases hlate: ∃p∈E,p.1∈L∧p.1∈Region.ready .any ops listed
  ·
   obtain⟨p,hp,hpL,hj⟩:=hlate
   obtain⟨hsel,hQ⟩:=hLs (fun e=>by rw[e]at hpL;cases hpL)
   obtain⟨j',d,v⟩:=p
   obtain⟨o,ho,hg,hv,hfree,_⟩:=hLate _ hp hpL
   obtain⟨_,⟨o',ho',hd⟩,⟨hbj,_⟩,_⟩:=hE.ent _ hp
   rw[ho]at ho';cases ho'
   have hju:=(mem_ready.1 hj).1
   have hjlt:=(Array.getElem?_eq_some_iff.1 ho).1
   have hdec:=unl_set hjlt hju
   have hwaits:=shut_ready hA hsh hj
   have hjun:listed.getD j' false=false:=by rw[getD_listed hs hjlt false];exact hju
   have Fs:Facts mine w0 (over E (inL (ancs A j')) 0 base) a.tmps w μ ok:=by
    refine F.less (by rw[over_length,over_length];exact Nat.le_refl _) (by have:=F.len;rw[over_length]at this⊢;exact this) fun t=> ?_
    rw[over_at,over_at]
    by_cases hlt:t<base.length
    ·rw[if_pos hlt,if_pos hlt]
     cases hl:look E (inL (ancs A j')) t with
     |some u=>
      obtain⟨k,h1,h2⟩:=look_mem hl
      rw[look_of_mem (X:=fun i=>listed.getD i false) hE.apart h1 (hwaits k h2)]
      exact .inl rfl
     |none=>
      cases hl':look E (fun i=>listed.getD i false) t with
      |none=>exact .inl rfl
      |some u=>
       obtain⟨k,h1,_⟩:=look_mem hl'
       exact .inr (.inl ⟨(hE.ent _ h1).2.2.1.1,.inl (hE.ent _ h1).2.2.1.2⟩)
    ·rw[if_neg hlt,if_neg hlt];exact .inl rfl
   obtain⟨x,hx,hxv,hxo⟩:=hoistW_sound hP Fs hv
   refine wpAny_take ho hsel (free_mono (fun k hk=> ?_) hfree) (by simpa using hj) (fun c a w h=>absurd h (hQ c _ w)) (v:=x) (.inl ⟨wanted_none hg _,hx⟩) ?_
   ·rcases markA_get hk with h|h
    ·rw[Array.getD_eq_getD_getElem?,Array.getElem?_eq_none (by omega)];rfl
    ·have h9:=hwaits k h
     have hk2:k<ops.size:=Nat.lt_trans ((hA j' o ho).2 k h).1 hjlt
     rw[←getD_listed hs hk2 false];exact h9
   ·have hput:a.put o.dst x=⟨a.tmps.setIfInBounds d x,a.defers⟩:=by rw[hd];rfl
    rw[hput]
    obtain⟨μ',F2⟩:=F.putNew d (NewRel.of_av hxo hxv)
    have hatd:St.at (over E (fun i=>listed.getD i false) 0 base) d= .one .junk:=by
     rw[over_at]
     by_cases hlt:d<base.length
     ·rw[if_pos hlt,look_none_of hE.apart hp hjun];exact hbj
     ·rw[if_neg hlt]
    have hput:St.put (over E (fun i=>listed.getD i false) 0 base) d v=List.set (over E (fun i=>listed.getD i false) 0 base) d v:=by
     rw[St.put_eq (selfB_at (by rw[hatd];rfl))]
     rw[hatd]
     show(bif ((AV.one SV.junk).isOwner||v.isOwner)then _ else _)=_
     rw[hxo];rfl
    rw[hput]at F2
    refine ih _ ⟨a.tmps.setIfInBounds d x,a.defers⟩ w μ' ok (by simp [hs]) (fun q hq=> ?_) (fun k hk hku=> ?_) (shut_set hA hsh hj) (by omega) (over_step hE hs hp hjlt F2) hn
    ·rw[getD_set_ne true]
     ·exact hTu q hq
     ·rintro rfl
      exact hdis _ hp (List.mem_map.2 ⟨q,hq,rfl⟩)
    ·by_cases hkj:j'=k
     ·subst hkj
      have:(listed.setIfInBounds j' true).getD j' true=true:=by simp [hs,hjlt]
      rw[this]at hku;cases hku
     ·rw[getD_set_ne true hkj]at hku
      exact hall k hk hku
  by_cases hleft: ∃p∈E,listed.getD p.1 true=false
  ·
   obtain⟨p0,hp0,hu0⟩:=hleft
   have hlt0:p0.1<ops.size:=by obtain⟨_,⟨o,ho,_⟩,_⟩:=hE.ent _ hp0;exact(Array.getElem?_eq_some_iff.1 ho).1
   refine⟨fun h0=>absurd h0 (ready_ne hA hs hlt0 hu0),fun j hj=> ?_⟩
   obtain⟨hju,oj,hjo,_⟩:=mem_ready.1 hj
   have hjlt:=(Array.getElem?_eq_some_iff.1 hjo).1
   have hdec:=unl_set hjlt hju
   rcases hall j hjlt hju with hjT|hjE
   ·
    exfalso
    have hwait: ∀(k:Nat) (M:List Nat) (T:List (Nat×Oper)),chkT A M T=true→k∈M→j∈T.map (·.1)→inL (ancs A j) k=true:=by
     intro k M T
     induction T generalizing M with
     |nil=>intro _ _ h;cases h
     |cons q T ih=>
      obtain⟨k',o⟩:=q
      intro h hL hj
      simp only[chkT,Bool.and_eq_true,List.all_eq_true]at h
      simp only[List.map_cons,List.mem_cons]at hj
      rcases hj with hj|hj
      ·subst hj;exact h.1 _ hL
      ·exact ih _ h.2 (by simp [hL]) hj
    have hnot: ∀(n:Nat) (p:Ent),p∈E→p.1=n→listed.getD p.1 true=false→False:=by
     intro n
     induction n using Nat.strongRecOn with
     |_ n ihn=>
      intro p hp hpn hpu
      have hplt:p.1<ops.size:=by obtain⟨_,⟨o,ho,_⟩,_⟩:=hE.ent _ hp;exact(Array.getElem?_eq_some_iff.1 ho).1
      rcases hM p hp with hpL|hpM
      ·obtain⟨o,ho,_,_,_,hafter⟩:=hLate p hp hpL
       refine hlate ⟨p,hp,hpL,mem_ready.2 ⟨hpu,o,ho,fun e he hb=> ?_⟩⟩
       have hon0:=(hA p.1 o ho).1 e he hb
       cases hq:listed.getD e.on true with
       |true=>rw[getD_listed hs (by omega) false];exact hq
       |false=>
        exfalso
        have hon:=(hA p.1 o ho).1 e he hb
        rcases hall e.on (by omega) hq with h|h
        ·exact hafter e he hb h
        ·obtain⟨q,hq',e'⟩:=List.mem_map.1 h
         exact ihn q.1 (by rw[e'];omega) q hq' rfl (by rw[e'];exact hq)
      ·have:=shut_ready hA hsh hj p.1 (hwait p.1 M T hT hpM hjT)
       rw[getD_listed hs hplt false,hpu]at this
       cases this
    exact hnot p0.1 p0 hp0 rfl hu0
   ·obtain⟨p,hp,hpj⟩:=List.mem_map.1 hjE
    obtain⟨j',d,v⟩:=p
    have hpj:j'=j:=hpj
    subst hpj
    obtain⟨_,⟨o',ho',hd⟩,⟨hbj,_⟩,hres⟩:=hE.ent _ hp
    have hwaits:=shut_ready hA hsh hj
    have hjun:listed.getD j' false=false:=by rw[getD_listed hs hjlt false];exact hju
    have Fs:Facts mine w0 (over E (inL (ancs A j')) 0 base) a.tmps w μ ok:=by
     refine F.less (by rw[over_length,over_length];exact Nat.le_refl _) (by have:=F.len;rw[over_length]at this⊢;exact this) fun t=> ?_
     rw[over_at,over_at]
     by_cases hlt:t<base.length
     ·rw[if_pos hlt,if_pos hlt]
      cases hl:look E (inL (ancs A j')) t with
      |some u=>
       obtain⟨k,h1,h2⟩:=look_mem hl
       rw[look_of_mem (X:=fun i=>listed.getD i false) hE.apart h1 (hwaits k h2)]
       exact .inl rfl
      |none=>
       cases hl':look E (fun i=>listed.getD i false) t with
       |none=>exact .inl rfl
       |some u=>
        obtain⟨k,h1,_⟩:=look_mem hl'
        exact .inr (.inl ⟨(hE.ent _ h1).2.2.1.1,.inl (hE.ent _ h1).2.2.1.2⟩)
     ·rw[if_neg hlt,if_neg hlt];exact .inl rfl
    refine hres a w μ ok Q _ Fs fun w1 ok1 x F1 hx hg=> ?_
    have Fb:Facts mine w0 (over E (fun i=>listed.getD i false) 0 base) a.tmps w1 μ ok1:=
     F.step (fun b hb=>hg.fr.block b (F.okB b hb) id) (fun i b h1 h2=>hg.fr.block b (F.ownB i b h1 h2).1 id) hg.fr.size hg.up F1.okB F1.okT F1.okF
       (fun i b h1 h2 h3=>by
        have:=F.ownB i b h1 h2
        rcases hg.down _ _ h3 with h|h
        ·exact this.2.2 h
        ·omega)
       F1.okS (F.fr.trans hg.fr)
    have hold: ∀t,t<base.length→look E (fun i=>listed.getD i false) d=none:=fun _ _=>look_none_of hE.apart hp hjun
    have hatd:St.at (over E (fun i=>listed.getD i false) 0 base) d= .one .junk:=by
     rw[over_at]
     by_cases hlt:d<base.length
     ·rw[if_pos hlt,hold d hlt];exact hbj
     ·rw[if_neg hlt]
    have hnew:NewRel mine w0 (over E (fun i=>listed.getD i false) 0 base) w1 μ ok1 v x:=by
     have hB: ∀b,FreshB mine w0 (over E (inL (ancs A j')) 0 base) w1 μ ok1 b→w.heap.size≤b→FreshB mine w0 (over E (fun i=>listed.getD i false) 0 base) w1 μ ok1 b:=
      fun b h1 h2=>⟨h1.1,h1.2.1,h1.2.2.1,fun i hi hb=>by have:=(F.ownB i b hi hb).1;omega⟩
     cases v with
     |own cs=>
      obtain⟨b,c,E',e1,e2,e3,e4⟩:=hx
      exact⟨b,c,E',e1,e2,e3,hB b e4 (hg.new rfl b (.inl e1))⟩
     |arr f t xs=>
      obtain⟨l,e1,e2,e3⟩:=hx
      refine⟨l,e1,e2,fun b hb=>hB b (e3 b hb) (hg.new rfl b (.inr (.inl ⟨_,_,by rw[e1];unfold slv;rw[hb];rfl⟩)))⟩
     |mapO f kt vt es=>
      obtain⟨b,e1,e2,e3⟩:=hx
      exact⟨b,e1,e2,hB b e3 (hg.new rfl b (.inr (.inr e1)))⟩
     |one y=>exact hx
     |agg cs=>exact hx
     |tup l=>exact hx
     |gho o=>exact(hx:AVRel w1 μ ok1 (.gho o) x).elim
    obtain⟨μ',F2⟩:=Fb.putNew d hnew
    have hput:St.put (over E (fun i=>listed.getD i false) 0 base) d v=List.set (over E (fun i=>listed.getD i false) 0 base) d v:=by
     rw[St.put_eq (selfB_at (by rw[hatd];rfl))]
     rw[hatd]
     show(bif ((AV.one SV.junk).isOwner||v.isOwner)then _ else _)=_
     cases ho:v.isOwner with
     |false=>rfl
     |true=>
      simp only[Bool.or_true,cond_true]
      obtain⟨c1,c2⟩:=chkE_spec hC hp ho
      have hself:v.refers d=false:=c2 j' d v hp (by
       cases hx:inL (ancs A j') j' with
       |false=>rfl
       |true=>have:=((hA j' o' ho').2 j' hx).1;omega)
      rw[AV.kill_id hself,St.kill_id]
      intro i
      rw[over_at]
      split
      ·cases hl:look E (fun i=>listed.getD i false) i with
       |none=>exact c1 i
       |some u=>
        obtain⟨k,h1,h2⟩:=look_mem hl
        refine c2 k i u h1 ?_
        cases hx:inL (ancs A k) j' with
        |false=>rfl
        |true=>
         obtain⟨_,⟨ok',hok',_⟩,_⟩:=hE.ent _ h1
         have:=hsh k (Array.getElem?_eq_some_iff.1 hok').1 h2 j' hx
         rw[hjun]at this;cases this
      ·rfl
    rw[hput]at F2
    have F3:Facts mine w0 (over E (fun i=>(listed.setIfInBounds j' true).getD i false) 0 base) (a.tmps.setIfInBounds d x) w1 μ' ok1:=over_step hE hs hp hjlt F2
    refine ih _ ⟨a.tmps.setIfInBounds d x,a.defers⟩ w1 μ' ok1 (by simp [hs]) (fun q hq=> ?_) (fun k hk hku=> ?_) (shut_set hA hsh hj) (by omega) F3 hn
    ·rw[getD_set_ne true]
     ·exact hTu q hq
     ·rintro rfl
      exact hdis _ hp (List.mem_map.2 ⟨q,hq,rfl⟩)
    ·by_cases hkj:j'=k
     ·subst hkj
      have:(listed.setIfInBounds j' true).getD j' true=true:=by simp [hs,hjlt]
      rw[this]at hku;cases hku
     ·rw[getD_set_ne true hkj]at hku
      exact hall k hk hku
  ·
   have hE1: ∀p∈E,listed.getD p.1 true=true:=by
    intro p hp
    cases h:listed.getD p.1 true with
    |true=>rfl
    |false=>exact absurd ⟨p,hp,h⟩ hleft
   have hover:over E (fun i=>listed.getD i false) 0 base=over E (fun _=>true) 0 base:=by
    refine over_congr (fun t=> ?_) 0 base
    cases hl:look E (fun _=>true) t with
    |none=>
     cases hl':look E (fun i=>listed.getD i false) t with
     |none=>rfl
     |some v=>
      obtain⟨i,h1,_⟩:=look_mem hl'
      rw[look_of_mem hE.apart h1 rfl]at hl;cases hl
    |some v=>
     obtain⟨i,h1,_⟩:=look_mem hl
     obtain⟨_,⟨o,ho,_⟩,_⟩:=hE.ent _ h1
     have hlt:=(Array.getElem?_eq_some_iff.1 ho).1
     exact look_of_mem hE.apart h1 (by rw[getD_listed hs hlt false];exact hE1 _ h1)
   rw[hover]at F
   refine runT_sound hP hΓ hA T M (fuel+1) listed _ a w μ ok K (fun p hp=>⟨hT1 p hp,hTu p hp⟩) hTn hs (fun i hi h=> ?_) hsh hT hf F hK hn
   rcases hall i hi h with h'|h'
   ·exact h'
   ·obtain⟨p,hp,rfl⟩:=List.mem_map.1 h'
    rw[hE1 p hp]at h;cases h
theorem clear_sound {tm:Array Value}: ∀(S:List (Nat×Oper)) {st:St},Facts mine w0 st tm w μ ok→Facts mine w0 (clear S st) tm w μ ok:=by
 intro S
 induction S with
 |nil=>intro st F;exact F
 |cons p S ih=>
  intro st F
  obtain⟨i,o⟩:=p
  simp only[clear]
  split
  ·rename_i d hd
   refine ih ?_
   cases hg:(st.at d).isGho with
   |true=>exact F
   |false=>
    simp only[cond_false]
    refine(F.forget d).less (by rw[List.length_set];exact Nat.le_refl _) (by rw[List.length_set];exact(F.forget d).len) fun k=> ?_
    rw[St.at_set]
    split
    ·rename_i hk
     refine .inr (.inl ⟨rfl,.inl ?_⟩)
     rw[←hk.1,St.at_kill,AV.isGho_kill];exact hg
    ·exact .inl rfl
  ·exact ih F
theorem drawST_sound (hP:TabOk P tb) (hΓ:OrcFit P Γ mine) {ops:Array Oper} {A:List (List Nat)} (hA:AncLt A ops) {Q:Exit→Act→World→Prop} {S T:List (Nat×Oper)} {K:St→Option ρ} (hS: ∀p∈S,ops[p.1]? =some p.2) (hT1: ∀p∈T,ops[p.1]? =some p.2)
 (hTn:(T.map (·.1)).Nodup) (h:drawST tb Γ ops.toList A S T st K=some out) {fuel:Nat} {listed:Array Bool} (hs:listed.size=ops.size) (hSu: ∀p∈S,listed.getD p.1 false=false) (hTu: ∀p∈T,listed.getD p.1 true=false)
 (hall: ∀i,i<ops.size→listed.getD i true=false→i∈T.map (·.1)∨i∈S.map (·.1)) (hsh:Shut A listed ops.size) (hf:unl ops listed≤fuel) (F:Facts mine w0 st a.tmps w μ ok) (hn:Goes mine w0 a.defers K out (Q .normal)):
 wpAny P .any ops Q fuel listed a w:=by
 unfold drawST at h
 cases hT:chkT A (S.map (·.1)) T with
 |false=>rw[hT]at h;cases h
 |true=>
  rw[hT]at h
  simp only[cond_true]at h
  obtain⟨E,lo,hE,hm,h'⟩:=drawS_sound (P:=P) (mine:=mine) (w0:=w0) hP hΓ hA S 0 [] _ hS ⟨.nil,fun p hp=>by cases hp⟩ h
  cases hC:chkE A (clear S st) E with
  |false=>rw[hC]at h';cases h'
  |true=>
   rw[hC]at h'
   simp only[cond_true]at h'
   rw[List.map_nil,List.nil_append]at hm
   have hself: ∀(k:Nat) (M:List Nat) (T:List (Nat×Oper)),chkT A M T=true→k∈M→k∈T.map (·.1)→inL (ancs A k) k=true:=by
    intro k M T
    induction T generalizing M with
    |nil=>intro _ _ h;cases h
    |cons q T ih=>
     intro h hL hj
     obtain⟨k',o⟩:=q
     simp only[chkT,Bool.and_eq_true,List.all_eq_true]at h
     simp only[List.map_cons,List.mem_cons]at hj
     rcases hj with hj|hj
     ·subst hj;exact h.1 _ hL
     ·exact ih _ h.2 (by simp [hL]) hj
   have hES: ∀p∈E,p.1∈S.map (·.1):=fun p hp=>by rw[←hm];exact List.mem_map.2 ⟨p,hp,rfl⟩
   refine drawn_sound hP hΓ hA hE hC (T:=T) (L:=[]) (M:=S.map (·.1)) (fun h=>absurd rfl h) (fun p _ h=>by cases h) (fun p hp hpT=> ?_) (fun p hp=> .inr (hES p hp)) hT hT1 hTn h' fuel listed a w μ ok hs hTu (by rw[hm];exact hall) hsh hf ?_ hn
   ·have h1:=hself p.1 _ T hT (hES p hp) hpT
    obtain⟨_,⟨o,ho,_⟩,_⟩:=hE.ent _ hp
    have:=((hA p.1 o ho).2 p.1 h1).1
    omega
   refine(clear_sound S F).less (by rw[over_length];exact Nat.le_refl _) (by rw[over_length];exact(clear_sound S F).len) fun t=> .inl ?_
   rw[over_at]
   have hnone:look E (fun i=>listed.getD i false) t=none:=by
    cases hl:look E (fun i=>listed.getD i false) t with
    |none=>rfl
    |some u=>
     obtain⟨k,h1,h2⟩:=look_mem hl
     have:k∈S.map (·.1):=by rw[←hm];exact List.mem_map.2 ⟨_,h1,rfl⟩
     obtain⟨p,hp,rfl⟩:=List.mem_map.1 this
     rw[hSu p hp]at h2;cases h2
   rw[hnone]
   by_cases hlt:t<(clear S st).length
   ·rw[if_pos hlt];rfl
   ·rw[if_neg hlt,St.at_out _ _ (by omega)]
theorem LateF.grow {ops:Array Oper} {A:List (List Nat)} {base:St} {T:List Nat} {E:List Ent} {p:Ent} {i d:Nat} {v:AV} (h:LateF tb ops A base T E p) (hn:inL (ancs A p.1) i=false):LateF tb ops A base T (E++[(i,d,v)]) p:=by
 obtain⟨o,h1,h2,h3,h4,h5⟩:=h
 refine⟨o,h1,h2, ?_,h4,h5⟩
 have:over (E++[(i,d,v)]) (inL (ancs A p.1)) 0 base=over E (inL (ancs A p.1)) 0 base:=by
  refine over_congr (fun t=> ?_) 0 base
  cases hl:look E (inL (ancs A p.1)) t with
  |some u=>exact look_append_some hl
  |none=>rw[look_append_none hl];simp [look,hn]
 rw[this];exact h3
theorem isExt_ev {o:Op} (h:isExt o=true) (st:St):ev tb Γ st o=hoistW tb st o:=by
 cases o<;>first|rfl|cases h
theorem lateS_sound (hP:TabOk P tb) (hΓ:OrcFit P Γ mine) {ops:Array Oper} {A:List (List Nat)} (hA:AncLt A ops) {base:St} {T:List Nat}: ∀(Lt:List (Nat×Oper)) (lo:Nat) (E:List Ent) (L0:List Nat) (K:List Ent→Option ρ),
 (∀p∈Lt,ops[p.1]? =some p.2)→Ents P mine w0 ops A base lo E→(∀p∈E,p.1∈L0→LateF tb ops A base T E p)→lateS tb ops A base T Lt E K=some out→
 ∃E' lo',Ents P mine w0 ops A base lo' E'∧E'.map (·.1)=E.map (·.1)++Lt.map (·.1)∧K E'=some out∧(∀p∈E',p.1∈L0∨p.1∈Lt.map (·.1)→LateF tb ops A base T E' p)∧ ∀p∈Lt,lateB ops A p=true:=by
 intro Lt
 induction Lt with
 |nil=>intro lo E L0 K _ hE hL h;exact⟨E,lo,hE,by simp,h,fun p hp h=>hL p hp (h.resolve_right (by simp)),by simp⟩
 |cons p Lt ih=>
  intro lo E L0 K hS hE hL h
  obtain⟨i,o⟩:=p
  have hi:ops[i]? =some o:=hS (i,o) (by simp)
  simp only[lateS]at h
  split at h
  ·rename_i d g v hd hv
   cases hc:(g&&(lateB ops A (i,o)&&(isJ (base.at d)&&((look E (fun _=>true) d).isNone&&((o.after.toList.all fun e=> !Region.binds .any e|| !inL T e.on)&&((E.all fun p=> !inL (ancs A p.1) i)&& !v.isGho))))))with
   |false=>rw[hc]at h;cases h
   |true=>
    rw[hc]at h
    simp only[cond_true]at h
    simp only[Bool.and_eq_true,Bool.not_eq_true']at hc
    obtain⟨rfl,hlb,hj,hl,haft,hnw,hgv⟩:=hc
    have hlb0:=hlb
    unfold lateB at hlb
    simp only[Bool.and_eq_true]at hlb
    obtain⟨⟨hx,hg⟩,hfree⟩:=hlb
    have hg:o.guard=none:=by
     cases hq:o.guard with
     |none=>rfl
     |some q=>rw[hq]at hg;cases hg
    have hj:base.at d= .one .junk:=by
     cases hb:base.at d with
     |one x=>cases x<;>first|rfl|(rw[hb]at hj;cases hj)
     |_=>rw[hb]at hj;cases hj
    have hnw': ∀p∈E,inL (ancs A p.1) i=false:=fun p hp=>by have:=List.all_eq_true.1 hnw p hp;simpa using this
    have hself:inL (ancs A i) i=false:=by
     cases hx:inL (ancs A i) i with
     |false=>rfl
     |true=>have:=((hA i o hi).2 i hx).1;omega
    have hev:ev tb Γ (over E (inL (ancs A i)) 0 base) o.op=some (true,v):=by rw[isExt_ev hx];exact hv
    have hE2:=hE.add2 hA hi hd hnw' hj hgv hl (res_ev hP hΓ hi hd (fun a w μ ok _=>wanted_none hg _) hev)
    have haft': ∀e∈o.after,Region.binds .any e=true→e.on ∉ T:=fun e he hb hT=>by
     have:=List.all_eq_true.1 haft e (by simpa using he)
     rw[hb,inL_mem.2 hT]at this
     cases this
    have hnew:LateF tb ops A base T (E++[(i,d,v)]) (i,d,v):=by
     refine LateF.grow ⟨o,hi,hg,hv,hfree,haft'⟩ hself
    have hnext: ∀p∈E++[(i,d,v)],p.1∈i::L0→LateF tb ops A base T (E++[(i,d,v)]) p:=by
     intro p hp hpL
     rcases List.mem_append.1 hp with hp|hp
     ·refine LateF.grow (hL p hp ?_) (hnw' p hp)
      rcases List.mem_cons.1 hpL with e|e
      ·exfalso
       obtain⟨_,⟨o',h2,h3⟩,_⟩:=hE.ent p hp
       rw[e,hi]at h2
       cases h2
       rw[hd]at h3
       have e3:p.2.1 =d:=(Option.some.inj h3).symm
       have:=look_of_mem (X:=fun _=>true) hE.apart (i:=p.1) (t:=d) (v:=p.2.2) (by rw[←e3];exact hp) rfl
       rw[this]at hl
       cases hl
      ·exact e
     ·obtain rfl:=List.mem_singleton.1 hp
      exact hnew
    obtain⟨E',lo',g1,g2,g3,g4,g5⟩:=ih _ _ (i::L0) K (fun p hp=>hS p (by simp [hp])) hE2 hnext h
    refine⟨E',lo',g1,by rw[g2];simp,g3,fun p hp hh=>g4 p hp ?_,fun p hp=> ?_⟩
    ·rcases hh with hh|hh
     ·exact .inl (by simp [hh])
     ·rcases List.mem_cons.1 hh with hh|hh
      ·exact .inl (by rw[hh];simp)
      ·exact .inr hh
    ·rcases List.mem_cons.1 hp with rfl|hp
     ·exact hlb0
     ·exact g5 p hp
  ·cases h
theorem drawSTL_sound (hP:TabOk P tb) (hΓ:OrcFit P Γ mine) {ops:Array Oper} {A:List (List Nat)} (hA:AncLt A ops) {Q:Exit→Act→World→Prop} (hsel:Region.noSelect ops=true) (hQ: ∀c a w,¬Q (.panic c) a w) {S L T:List (Nat×Oper)} {K:St→Option ρ} (hS: ∀p∈S,ops[p.1]? =some p.2) (hL1: ∀p∈L,ops[p.1]? =some p.2) (hT1: ∀p∈T,ops[p.1]? =some p.2)
 (hTL: ∀p∈T,lateB ops A p=false) (hTn:(T.map (·.1)).Nodup) (h:drawSTL tb Γ ops A S L T st K=some out) {fuel:Nat} {listed:Array Bool} (hs:listed.size=ops.size) (hSu: ∀p∈S,listed.getD p.1 false=false) (hLu: ∀p∈L,listed.getD p.1 false=false) (hTu: ∀p∈T,listed.getD p.1 true=false)
 (hall: ∀i,i<ops.size→listed.getD i true=false→i∈T.map (·.1)∨i∈S.map (·.1)∨i∈L.map (·.1)) (hsh:Shut A listed ops.size) (hf:unl ops listed≤fuel) (F:Facts mine w0 st a.tmps w μ ok) (hn:Goes mine w0 a.defers K out (Q .normal)):
 wpAny P .any ops Q fuel listed a w:=by
 unfold drawSTL at h
 cases hT:chkT A (S.map (·.1)) T with
 |false=>rw[hT]at h;cases h
 |true=>
  rw[hT]at h
  simp only[cond_true]at h
  obtain⟨E0,lo0,hE0,hm0,h0⟩:=drawS_sound (P:=P) (mine:=mine) (w0:=w0) hP hΓ hA S 0 [] _ hS ⟨.nil,fun p hp=>by cases hp⟩ h
  obtain⟨E,lo,hE,hm,h',hLF,hLB⟩:=lateS_sound (P:=P) (mine:=mine) (w0:=w0) hP hΓ hA L lo0 E0 [] _ hL1 hE0 (fun p _ h=>by cases h) h0
  cases hC:chkE A (clear (S++L) st) E with
  |false=>rw[hC]at h';cases h'
  |true=>
   rw[hC]at h'
   simp only[cond_true]at h'
   rw[List.map_nil,List.nil_append]at hm0
   rw[hm0]at hm
   have hself: ∀(k:Nat) (M:List Nat) (T:List (Nat×Oper)),chkT A M T=true→k∈M→k∈T.map (·.1)→inL (ancs A k) k=true:=by
    intro k M T
    induction T generalizing M with
    |nil=>intro _ _ h;cases h
    |cons q T ih=>
     intro h hL hj
     obtain⟨k',o⟩:=q
     simp only[chkT,Bool.and_eq_true,List.all_eq_true]at h
     simp only[List.map_cons,List.mem_cons]at hj
     rcases hj with hj|hj
     ·subst hj;exact h.1 _ hL
     ·exact ih _ h.2 (by simp [hL]) hj
   have hES: ∀p∈E,p.1∈S.map (·.1)∨p.1∈L.map (·.1):=fun p hp=>by
    have:p.1∈E.map (·.1):=List.mem_map.2 ⟨p,hp,rfl⟩
    rw[hm]at this
    exact List.mem_append.1 this
   refine drawn_sound hP hΓ hA hE hC (T:=T) (L:=L.map (·.1)) (M:=S.map (·.1)) (fun _=>⟨hsel,hQ⟩) (fun p hp hpL=>hLF p hp (.inr hpL)) (fun p hp hpT=> ?_) (fun p hp=>(hES p hp).symm) hT hT1 hTn h' fuel listed a w μ ok hs hTu (fun i h1 h2=> ?_) hsh hf ?_ hn
   ·rcases hES p hp with h1|h1
    ·have h1:=hself p.1 _ T hT h1 hpT
     obtain⟨_,⟨o,ho,_⟩,_⟩:=hE.ent _ hp
     have:=((hA p.1 o ho).2 p.1 h1).1
     omega
    ·obtain⟨q,hq,e⟩:=List.mem_map.1 h1
     obtain⟨q',hq',e'⟩:=List.mem_map.1 hpT
     have a1:=hL1 q hq
     have a2:=hT1 q' hq'
     rw[e]at a1
     rw[e',a1]at a2
     have b1:=hLB q hq
     have b2:=hTL q' hq'
     have:q=q':=Prod.ext (e.trans e'.symm) (Option.some.inj a2)
     rw[this,b2]at b1
     cases b1
   ·rcases hall i h1 h2 with h|h|h
    ·exact .inl h
    ·exact .inr (by rw[hm];exact List.mem_append.2 (.inl h))
    ·exact .inr (by rw[hm];exact List.mem_append.2 (.inr h))
   refine(clear_sound (S++L) F).less (by rw[over_length];exact Nat.le_refl _) (by rw[over_length];exact(clear_sound (S++L) F).len) fun t=> .inl ?_
   rw[over_at]
   have hnone:look E (fun i=>listed.getD i false) t=none:=by
    cases hl:look E (fun i=>listed.getD i false) t with
    |none=>rfl
    |some u=>
     obtain⟨k,h1,h2⟩:=look_mem hl
     rcases hES _ h1 with h|h
     ·obtain⟨p,hp,e⟩:=List.mem_map.1 h
      have e:p.1=k:=e
      have:=hSu p hp
      rw[e,h2]at this;cases this
     ·obtain⟨p,hp,e⟩:=List.mem_map.1 h
      have e:p.1=k:=e
      have:=hLu p hp
      rw[e,h2]at this;cases this
   rw[hnone]
   by_cases hlt:t<(clear (S++L) st).length
   ·rw[if_pos hlt];rfl
   ·rw[if_neg hlt,St.at_out _ _ (by omega)]
structure Listed (A:List (List Nat)) (ops:Array Oper) (listed:Array Bool) (H:List Nat):Prop where
 size:listed.size=ops.size
 iff: ∀i,i<ops.size→(listed.getD i true=true↔i∈H)
 shut:Shut A listed ops.size
theorem hoist_sound (hP:TabOk P tb) {B:List Nat} {ops:Array Oper} {A:List (List Nat)} (hA:AncLt A ops) (hs:Region.noSelect ops=true) {Q:Exit→Act→World→Prop} (hQ: ∀c a w,¬Q (.panic c) a w) {K:Array Bool→List Nat→St→Option ρ}:
 ∀(N:List (Nat×Oper)) (listed:Array Bool) (H:List Nat) (st:St) (a:Act) (w:World) (μ:Locs) (ok:OK) (fuel:Nat),(∀p∈N,ops[p.1]? =some p.2∧p.1∈B)→(∀k∈H,k∈B)→Listed A ops listed H→unl ops listed≤fuel→Facts mine w0 st a.tmps w μ ok→
 hoist tb ops N listed H st K=some out→
 (∀(listed:Array Bool) (H:List Nat) (st:St) (tm:Array Value) (μ:Locs) (fuel:Nat),(∀k∈H,k∈B)→Listed A ops listed H→unl ops listed≤fuel→Facts mine w0 st tm w μ ok→K listed H st=some out→wpAny P .any ops Q fuel listed ⟨tm,a.defers⟩ w)→
 wpAny P .any ops Q fuel listed a w:=by
 intro N
 induction N with
 |nil=>intro listed H st a w μ ok fuel _ hB hL hf F h hn;exact hn listed H st a.tmps μ fuel hB hL hf F h
 |cons p N ih=>
  intro listed H st a w μ ok fuel hN hB hL hf F h hn
  obtain⟨i,o⟩:=p
  obtain⟨hio,hiB⟩:=hN (i,o) (by simp)
  have hi:=(Array.getElem?_eq_some_iff.1 hio).1
  simp only[hoist]at h
  split at h
  ·rename_i d v hg hd hv
   cases hc:(Region.free .any ops listed i&&(Region.ready .any ops listed).contains i)with
   |false=>
    rw[hc]at h
    exact ih listed H st a w μ ok fuel (fun p hp=>hN p (by simp [hp])) hB hL hf F h hn
   |true=>
    rw[hc]at h
    simp only[cond_true]at h
    simp only[Bool.and_eq_true]at hc
    obtain⟨x,hx,hxv,hxo⟩:=hoistV_sound hP F hv
    have hj:i∈Region.ready .any ops listed:=by simpa using hc.2
    have hju:=(mem_ready.1 hj).1
    have hdec:=unl_set hi hju
    obtain⟨μ',F1⟩:=F.putNew d (NewRel.of_av hxo hxv)
    have hput:a.put o.dst x=⟨a.tmps.setIfInBounds d x,a.defers⟩:=by rw[hd];rfl
    cases fuel with
    |zero=>omega
    |succ fuel=>
     refine wpAny_take hio hs hc.1 hc.2 (fun c a w h=>absurd h (hQ c _ w)) (v:=x) (.inl ⟨wanted_none hg _,hx⟩) ?_
     rw[hput]
     refine ih _ (i::H) _ ⟨a.tmps.setIfInBounds d x,a.defers⟩ w μ' ok fuel (fun p hp=>hN p (by simp [hp])) (fun k hk=>(List.mem_cons.1 hk).elim (fun e=>e▸hiB) (hB k)) ⟨by simp [hL.size],fun k hk=> ?_,shut_set hA hL.shut hj⟩ (by omega) F1 h hn
     by_cases hki:i=k
     ·subst hki;simp [hL.size,hi]
     ·rw[getD_set_ne true hki,hL.iff k hk]
      simp [Ne.symm hki]
  ·exact ih listed H st a w μ ok fuel (fun p hp=>hN p (by simp [hp])) hB hL hf F h hn
theorem hoistX_sound (hP:TabOk P tb) {B:List Nat} {ops:Array Oper} {A:List (List Nat)} (hA:AncLt A ops) (hs:Region.noSelect ops=true) {Q:Exit→Act→World→Prop} (hQ: ∀c a w,¬Q (.panic c) a w) {K:Array Bool→List Nat→St→Option ρ}:
 ∀(N:List (Nat×Oper)) (listed:Array Bool) (H:List Nat) (st:St) (a:Act) (w:World) (μ:Locs) (ok:OK) (fuel:Nat),(∀p∈N,ops[p.1]? =some p.2∧p.1∈B)→(∀k∈H,k∈B)→Listed A ops listed H→unl ops listed≤fuel→Facts mine w0 st a.tmps w μ ok→
 hoistX tb ops N listed H st K=some out→
 (∀(listed:Array Bool) (H:List Nat) (st:St) (tm:Array Value) (μ:Locs) (fuel:Nat),(∀k∈H,k∈B)→Listed A ops listed H→unl ops listed≤fuel→Facts mine w0 st tm w μ ok→K listed H st=some out→wpAny P .any ops Q fuel listed ⟨tm,a.defers⟩ w)→
 wpAny P .any ops Q fuel listed a w:=by
 intro N
 induction N with
 |nil=>intro listed H st a w μ ok fuel _ hB hL hf F h hn;exact hn listed H st a.tmps μ fuel hB hL hf F h
 |cons p N ih=>
  intro listed H st a w μ ok fuel hN hB hL hf F h hn
  obtain⟨i,o⟩:=p
  obtain⟨hio,hiB⟩:=hN (i,o) (by simp)
  have hi:=(Array.getElem?_eq_some_iff.1 hio).1
  simp only[hoistX]at h
  have skip:hoistX tb ops N listed H st K=some out→wpAny P .any ops Q fuel listed a w:=fun h=>ih listed H st a w μ ok fuel (fun p hp=>hN p (by simp [hp])) hB hL hf F h hn
  split at h
  ·exact skip h
  ·rename_i d hd
   cases hc:(Region.free .any ops listed i&&(Region.ready .any ops listed).contains i)with
   |false=>rw[hc]at h;exact skip h
   |true=>
    rw[hc]at h
    simp only[cond_true]at h
    simp only[Bool.and_eq_true]at hc
    have hj:i∈Region.ready .any ops listed:=by simpa using hc.2
    have hju:=(mem_ready.1 hj).1
    have hdec:=unl_set hi hju
    have go: ∀(st':St) (x:Value) (μ':Locs),Yields P ops o x a→Facts mine w0 st' (a.tmps.setIfInBounds d x) w μ' ok→hoistX tb ops N (listed.setIfInBounds i true) (i::H) st' K=some out→wpAny P .any ops Q fuel listed a w:=by
     intro st' x μ' hy F1 h
     have hput:a.put o.dst x=⟨a.tmps.setIfInBounds d x,a.defers⟩:=by rw[hd];rfl
     cases fuel with
     |zero=>omega
     |succ fuel=>
      refine wpAny_take hio hs hc.1 hc.2 (fun c a w h=>absurd h (hQ c _ w)) (v:=x) hy ?_
      rw[hput]
      refine ih _ (i::H) _ ⟨a.tmps.setIfInBounds d x,a.defers⟩ w μ' ok fuel (fun p hp=>hN p (by simp [hp])) (fun k hk=>(List.mem_cons.1 hk).elim (fun e=>e▸hiB) (hB k)) ⟨by simp [hL.size],fun k hk=> ?_,shut_set hA hL.shut hj⟩ (by omega) F1 h hn
      by_cases hki:i=k
      ·subst hki;simp [hL.size,hi]
      ·rw[getD_set_ne true hki,hL.iff k hk]
       simp [Ne.symm hki]
    have done: ∀(st':St) (g:Bool) (v:AV),Facts mine w0 st' a.tmps w μ ok→hoistW tb st' o.op=some (g,v)→Region.wanted o (yielded ops a.tmps)=true→
     (bif g then hoistX tb ops N (listed.setIfInBounds i true) (i::H) (St.put st' d v) K else none)=some out→wpAny P .any ops Q fuel listed a w:=by
     intro st' g v F' hv hw h
     cases g with
     |false=>cases h
     |true=>
      simp only[cond_true]at h
      obtain⟨x,hx,hxv,hxo⟩:=hoistW_sound hP F' hv
      obtain⟨μ',F1⟩:=F'.putNew d (NewRel.of_av hxo hxv)
      exact go _ x μ' (.inl ⟨hw,hx⟩) F1 h
    split at h
    ·rename_i hg
     split at h
     ·rename_i g v hv
      exact done st g v F hv (wanted_none hg _) h
     ·exact skip h
    ·rename_i j want hg
     split at h
     ·exact skip h
     ·rename_i s hsl
      split at h
      ·rename_i b hb
       have hwb:=wanted_bool F hg hsl hb
       have hslot:=F.slots s
       rw[hb]at hslot
       have hval:a.tmps.getD s undef= .bool b:=hslot
       have Ft: ∀c,b=c→Facts mine w0 (List.set st s (.one (.bool c))) a.tmps w μ ok:=by
        intro c hc
        refine F.setV s (by rw[hb];rfl) (by rw[hb];rfl) rfl ?_
        show a.tmps.getD s undef=_
        rw[hval,hc]
       have leave: ∀c,b=c→Region.wanted o (yielded ops a.tmps)=false→hoistX tb ops N (listed.setIfInBounds i true) (i::H) (St.put (List.set st s (.one (.bool c))) d (.tup [])) K=some out→wpAny P .any ops Q fuel listed a w:=by
        intro c hc hw h
        exact go _ undef μ (.inr ⟨hw,rfl⟩) ((Ft c hc).putV d (v:= .tup []) ⟨[],rfl,.nil⟩ rfl) h
       cases b with
       |true=>
        simp only[cond_true]at h
        cases want with
        |true=>
         simp only at h
         split at h
         ·rename_i g v hv
          exact done _ g v (Ft true rfl) hv (by rw[hwb];rfl) h
         ·exact skip h
        |false=>exact leave true rfl (by rw[hwb];rfl) h
       |false=>
        simp only[cond_false]at h
        cases want with
        |true=>exact leave false rfl (by rw[hwb];rfl) h
        |false=>
         simp only at h
         split at h
         ·rename_i g v hv
          exact done _ g v (Ft false rfl) hv (by rw[hwb];rfl) h
         ·exact skip h
      ·exact skip h
theorem numbered_spec: ∀(l:List Oper) (n:Nat),(∀p,p∈numbered n l→l[p.1-n]? =some p.2∧n≤p.1)∧((numbered n l).map (·.1))=List.range' n l.length:=by
 intro l
 induction l with
 |nil=>intro n;exact⟨fun p hp=>(by cases hp),rfl⟩
 |cons o l ih=>
  intro n
  obtain⟨h1,h2⟩:=ih (n+1)
  refine⟨fun p hp=> ?_,by simp [numbered,h2,List.range'_succ]⟩
  simp only[numbered,List.mem_cons]at hp
  rcases hp with rfl|hp
  ·simp
  ·obtain⟨g1,g2⟩:=h1 p hp
   refine⟨?_,by omega⟩
   rw[show p.1-n=(p.1-(n+1))+1 by omega,List.getElem?_cons_succ]
   exact g1
theorem splitT_append (A:List (List Nat)): ∀(N:List (Nat×Oper)) (l:List Nat),(splitT A l N).1++(splitT A l N).2=N:=by
 intro N
 induction N with
 |nil=>intro l;rfl
 |cons p N ih=>
  intro l
  obtain⟨i,o⟩:=p
  have:=ih (i::l)
  simp only[splitT]
  split
  ·rename_i T hs
   rw[hs]at this
   cases l.all (inL (ancs A i))<;>simpa using this
  ·rename_i s S T hs
   rw[hs]at this
   simpa using this
theorem without_nodup {H:List Nat} {N:List (Nat×Oper)} (h:(N.map (·.1)).Nodup):((without H N).map (·.1)).Nodup:=by
 have key:((without H N).map (·.1)).Sublist (N.map (·.1)):=by
  clear h
  induction N with
  |nil=>exact .slnil
  |cons p N ih=>
   obtain⟨i,o⟩:=p
   simp only[without]
   cases inL H i with
   |true=>exact .cons _ ih
   |false=>exact .cons_cons _ ih
 exact h.sublist key
theorem without_mem {H:List Nat} {N:List (Nat×Oper)} {p:Nat×Oper}:p∈without H N↔p∈N∧p.1 ∉ H:=by
 induction N with
 |nil=>simp [without]
 |cons q N ih=>
  obtain⟨i,o⟩:=q
  simp only[without]
  cases hb:inL H i with
  |true=>
   have:=inL_mem.1 hb
   simp only[cond_true,ih,List.mem_cons]
   constructor
   ·rintro⟨h1,h2⟩;exact⟨.inr h1,h2⟩
   ·rintro⟨h1|h1,h2⟩
    ·subst h1;exact absurd this h2
    ·exact⟨h1,h2⟩
  |false=>
   have hn:i ∉ H:=fun h=>by rw[inL_mem.2 h]at hb;cases hb
   simp only[cond_false,List.mem_cons,ih]
   constructor
   ·rintro(h|⟨h1,h2⟩)
    ·subst h;exact⟨.inl rfl,hn⟩
    ·exact⟨.inr h1,h2⟩
   ·rintro⟨h1|h1,h2⟩
    ·exact .inl h1
    ·exact .inr ⟨h1,h2⟩
omit [Same ρ]in
theorem stepG_bind {ops:List Oper} {o:Oper} {K:St→Option ρ} {out:ρ} (h:stepG tb Γ ops st o K=some out): ∃st',stepG tb Γ ops st o some=some st'∧ ∀(K':St→Option ρ),stepG tb Γ ops st o K'=K' st':=by
 have op: ∀ {st:St} {K:St→Option ρ},stepOp tb Γ st o K=some out→ ∃st',stepOp tb Γ st o some=some st'∧ ∀(K':St→Option ρ),stepOp tb Γ st o K'=K' st':=by
  intro st K h
  unfold stepOp at h⊢
  split at h
  ·rename_i g st' hm
   cases g with
   |false=>cases h
   |true=>exact⟨st',rfl,fun K'=>rfl⟩
  ·split at h
   ·rename_i g v d he hd
    cases g with
    |false=>cases h
    |true=>exact⟨_,rfl,fun K'=>rfl⟩
   ·rename_i g v he hd
    cases g with
    |false=>cases h
    |true=>exact⟨_,rfl,fun K'=>rfl⟩
   ·cases h
 have skip: ∀ {st:St},∃st',skipOp st o some=some st'∧ ∀(K':St→Option ρ),skipOp st o K'=K' st':=by
  intro st
  unfold skipOp
  split
  ·exact⟨_,rfl,fun K'=>rfl⟩
  ·exact⟨_,rfl,fun K'=>rfl⟩
 unfold stepG at h⊢
 split at h
 ·exact op h
 ·rename_i j want hg
  split at h
  ·rename_i s hs
   split at h
   ·rename_i b hb
    cases b<;>cases want<;>simp only[cond_true,cond_false]at h⊢
    ·exact op h
    ·exact skip
    ·exact skip
    ·exact op h
   ·exact skip
   ·cases h
  ·cases h
theorem sameO_some {x:ρ}: ∀ {r:List (Option ρ)},sameO x r=true→ ∀y∈r,y=some x:=by
 intro r
 induction r with
 |nil=>intro _ y hy;cases hy
 |cons z r ih=>
  intro hs y hy
  cases z with
  |none=>cases hs
  |some z=>
   simp only[sameO,Bool.and_eq_true]at hs
   rcases List.mem_cons.1 hy with rfl|hy
   ·rw[Same.sound _ _ hs.1]
   ·exact ih hs.2 y hy
theorem allSame_some {l:List (Option ρ)} (h:allSame l=some out): ∀r∈l,r=some out:=by
 unfold allSame at h
 split at h
 ·rename_i x r
  cases hs:sameO x r with
  |false=>rw[hs]at h;cases h
  |true=>
   rw[hs]at h
   simp only[cond_true,Option.some.injEq]at h
   subst h
   intro y hy
   rcases List.mem_cons.1 hy with rfl|hy
   ·rfl
   ·exact sameO_some hs y hy
 ·cases h
theorem orders_sound (hP:TabOk P tb) (hΓ:OrcFit P Γ mine) {ops:Array Oper} {Q:Exit→Act→World→Prop} {K:St→Option ρ}: ∀(fuel:Nat) (listed:Array Bool) (st:St) (a:Act) (w:World) (μ:Locs) (ok:OK),Facts mine w0 st a.tmps w μ ok→
 (∀o∈lin ops fuel listed,runSeq tb Γ ops o st K=some out)→Goes mine w0 a.defers K out (Q .normal)→wpAny P .any ops Q fuel listed a w:=by
 intro fuel
 induction fuel with
 |zero=>
  intro listed st a w μ ok F h hn
  simp only[lin]at h
  split at h
  ·rename_i hr;exact⟨hr,hn _ _ _ _ _ F (h [] (by simp))⟩
  ·have:=h [ops.size] (by simp)
   simp [runSeq]at this
 |succ fuel ih=>
  intro listed st a w μ ok F h hn
  simp only[lin]at h
  split at h
  ·rename_i hr;exact wpAny_done hr (hn _ _ _ _ _ F (h [] (by simp))) _
  ·rename_i i r hr
   refine⟨fun h0=>(by rw[hr]at h0;cases h0),fun j hj=> ?_⟩
   rw[hr]at hj
   have hj': ∀o∈lin ops fuel (listed.setIfInBounds j true),runSeq tb Γ ops (j::o) st K=some out:=by
    intro o ho
    exact h (j::o) (List.mem_flatMap.2 ⟨j,hj,List.mem_map.2 ⟨o,ho,rfl⟩⟩)
   obtain⟨o0,ho0⟩: ∃o,o∈lin ops fuel (listed.setIfInBounds j true):=by
    have: ∀(k:Nat) (listed:Array Bool),∃o,o∈lin ops k listed:=by
     intro k
     induction k with
     |zero=>intro listed;simp only[lin];split<;>exact⟨_,by simp;rfl⟩
     |succ k ihk=>
      intro listed
      simp only[lin]
      split
      ·exact⟨[],by simp⟩
      ·rename_i i r hr
       obtain⟨o,ho⟩:=ihk (listed.setIfInBounds i true)
       exact⟨i::o,List.mem_flatMap.2 ⟨i,by simp,List.mem_map.2 ⟨o,ho,rfl⟩⟩⟩
    exact this _ _
   have h0:=hj' o0 ho0
   simp only[runSeq]at h0
   split at h0
   ·rename_i o ho
    obtain⟨st',e1,e2⟩:=stepG_bind h0
    refine stepG_sound hP hΓ F ho e1 fun st1 tm' w' μ' ok' F' h'=> ?_
    obtain rfl:st1=st':=Option.some.inj h'
    refine ih _ st1 ⟨tm',a.defers⟩ w' μ' ok' F' (fun o' ho'=> ?_) hn
    have:=hj' o' ho'
    simp only[runSeq,ho]at this
    rw[e2]at this
    exact this
   ·cases h0
theorem orders_sound0 (hP:TabOk P tb) (hΓ:OrcFit P Γ mine) {ops:Array Oper} {Q:Exit→Act→World→Prop} {K:St→Option ρ}: ∀(k fuel:Nat) (listed:Array Bool) (st:St) (a:Act) (w:World) (μ:Locs) (ok:OK),unl ops listed≤fuel→Facts mine w0 st a.tmps w μ ok→
 (∀o∈lin ops k listed,runSeq tb Γ ops o st K=some out)→Goes mine w0 a.defers K out (Q .normal)→wpAny P .any ops Q fuel listed a w:=by
 intro k
 induction k with
 |zero=>
  intro fuel listed st a w μ ok hf F h hn
  simp only[lin]at h
  split at h
  ·rename_i hr;exact wpAny_done hr (hn _ _ _ _ _ F (h [] (by simp))) _
  ·have:=h [ops.size] (by simp)
   simp [runSeq]at this
 |succ k ih=>
  intro fuel listed st a w μ ok hf F h hn
  simp only[lin]at h
  split at h
  ·rename_i hr;exact wpAny_done hr (hn _ _ _ _ _ F (h [] (by simp))) _
  ·rename_i i r hr
   have lin_ne: ∀(k:Nat) (listed:Array Bool),∃o,o∈lin ops k listed:=by
    intro k
    induction k with
    |zero=>intro listed;simp only[lin];split<;>exact⟨_,by simp;rfl⟩
    |succ k ihk=>
     intro listed
     simp only[lin]
     split
     ·exact⟨[],by simp⟩
     ·rename_i i r hr
      obtain⟨o,ho⟩:=ihk (listed.setIfInBounds i true)
      exact⟨i::o,List.mem_flatMap.2 ⟨i,by simp,List.mem_map.2 ⟨o,ho,rfl⟩⟩⟩
   have each: ∀j∈Region.ready .any ops listed,(∀o∈lin ops k (listed.setIfInBounds j true),runSeq tb Γ ops (j::o) st K=some out)∧ ∃o,ops[j]? =some o:=by
    intro j hj
    rw[hr]at hj
    have hj': ∀o∈lin ops k (listed.setIfInBounds j true),runSeq tb Γ ops (j::o) st K=some out:=by
     intro o ho
     exact h (j::o) (List.mem_flatMap.2 ⟨j,hj,List.mem_map.2 ⟨o,ho,rfl⟩⟩)
    refine⟨hj', ?_⟩
    obtain⟨o0,ho0⟩:=lin_ne k (listed.setIfInBounds j true)
    have h0:=hj' o0 ho0
    simp only[runSeq]at h0
    split at h0
    ·rename_i o ho;exact⟨o,ho⟩
    ·cases h0
   have hlt: ∀j∈Region.ready .any ops listed,unl ops (listed.setIfInBounds j true)<unl ops listed:=by
    intro j hj
    obtain⟨_,o,ho⟩:=each j hj
    exact unl_set (Array.getElem?_eq_some_iff.1 ho).1 (mem_ready.1 hj).1
   cases fuel with
   |zero=>
    have:=hlt i (by rw[hr];simp)
    omega
   |succ fuel=>
   refine⟨fun h0=>(by rw[hr]at h0;cases h0),fun j hj=> ?_⟩
   obtain⟨hj',_⟩:=each j hj
   obtain⟨o0,ho0⟩:=lin_ne k (listed.setIfInBounds j true)
   have h0:=hj' o0 ho0
   simp only[runSeq]at h0
   split at h0
   ·rename_i o ho
    obtain⟨st',e1,e2⟩:=stepG_bind h0
    refine stepG_sound hP hΓ F ho e1 fun st1 tm' w' μ' ok' F' h'=> ?_
    obtain rfl:st1=st':=Option.some.inj h'
    have:=hlt j hj
    refine ih fuel _ st1 ⟨tm',a.defers⟩ w' μ' ok' (by omega) F' (fun o' ho'=> ?_) hn
    have:=hj' o' ho'
    simp only[runSeq,ho]at this
    rw[e2]at this
    exact this
   ·cases h0
theorem drawAll_sound (hP:TabOk P tb) (hΓ:OrcFit P Γ mine) {ops:Array Oper} {Q:Exit→Act→World→Prop} {K:St→Option ρ} (F:Facts mine w0 st a.tmps w μ ok)
 (h:drawAll tb Γ ops st K=some out) (hn:Goes mine w0 a.defers K out (Q .normal)):wpAny P .any ops Q ops.size (Array.replicate ops.size false) a w:=
 orders_sound hP hΓ _ _ st a w μ ok F (fun o ho=>allSame_some h _ (List.mem_map.2 ⟨o,ho,rfl⟩)) hn
theorem sched_sound (hP:TabOk P tb) (hΓ:OrcFit P Γ mine) {ops:Array Oper} {A:List (List Nat)} (hA:AncLt A ops) (hs:Region.noSelect ops=true) {Q:Exit→Act→World→Prop} (hQ: ∀c a w,¬Q (.panic c) a w) {K:St→Option ρ}
 {N:List (Nat×Oper)} (hN: ∀p∈N,ops[p.1]? =some p.2∧p.1∈List.range ops.size): ∀(k fuel:Nat) (listed:Array Bool) (H:List Nat) (st:St) (a:Act) (w:World) (μ:Locs) (ok:OK),(∀k∈H,k∈List.range ops.size)→Listed A ops listed H→unl ops listed≤fuel→
 Facts mine w0 st a.tmps w μ ok→sched tb Γ ops N k listed H st K=some out→Goes mine w0 a.defers K out (Q .normal)→wpAny P .any ops Q fuel listed a w:=by
 intro k
 induction k with
 |zero=>intro fuel listed H st a w μ ok _ _ _ _ h;cases h
 |succ k ih=>
  intro fuel listed H st a w μ ok hB hL hf F h hn
  simp only[sched]at h
  refine hoistX_sound (B:=List.range ops.size) hP hA hs hQ N listed H st a w μ ok fuel hN hB hL hf F h ?_
  intro listed H st tm μ fuel hB hL hf F h
  have one: ∀i,i∈Region.ready .any ops listed→(match ops[i]? with
   |some o=>stepG tb Γ ops.toList st o fun st=>sched tb Γ ops N k (listed.setIfInBounds i true) (i::H) st K
   |none=>none)=some out→ ∀fuel',fuel=fuel'+1→wpOp P ops Q i (wpAny P .any ops Q fuel' (listed.setIfInBounds i true)) ⟨tm,a.defers⟩ w:=by
   intro i hi h fuel' hfu
   split at h
   ·rename_i o ho
    have hil:=(Array.getElem?_eq_some_iff.1 ho).1
    have hdec:=unl_set hil (mem_ready.1 hi).1
    refine stepG_sound (a:=⟨tm,a.defers⟩) hP hΓ F ho h fun st1 tm1 w1 μ1 ok1 F1 h1=> ?_
    refine ih fuel' _ (i::H) st1 ⟨tm1,a.defers⟩ w1 μ1 ok1 (fun k hk=>(List.mem_cons.1 hk).elim (fun e=>e▸List.mem_range.2 hil) (hB k)) ⟨by simp [hL.size],fun k hk=> ?_,shut_set hA hL.shut hi⟩ (by omega) F1 h1 hn
    by_cases hki:i=k
    ·subst hki;simp [hL.size,hil]
    ·rw[getD_set_ne true hki,hL.iff k hk]
     simp [Ne.symm hki]
   ·cases h
  have lt0: ∀i,i∈Region.ready .any ops listed→ ∃fuel',fuel=fuel'+1:=by
   intro i hi
   obtain⟨h0,o,ho,_⟩:=mem_ready.1 hi
   have:=unl_set (Array.getElem?_eq_some_iff.1 ho).1 h0
   exact⟨fuel-1,by omega⟩
  split at h
  ·rename_i hr;exact wpAny_done hr (hn _ _ _ _ _ F h) _
  ·rename_i i hr
   obtain⟨fuel',rfl⟩:=lt0 i (by rw[hr];simp)
   refine⟨fun h0=>(by rw[hr]at h0;cases h0),fun j hj=> ?_⟩
   have hj':=hj
   rw[hr]at hj'
   obtain rfl:=List.mem_singleton.1 hj'
   exact one j hj h fuel' rfl
  ·rename_i rs hne1 hne2
   have hne:Region.ready .any ops listed≠[]:=hne1
   obtain⟨i,r,hr⟩:=List.exists_cons_of_ne_nil hne
   obtain⟨fuel',rfl⟩:=lt0 i (by rw[hr];simp)
   refine⟨fun h0=>absurd h0 hne,fun j hj=> ?_⟩
   exact one j hj (allSame_some h _ (List.mem_map.2 ⟨j,hj,rfl⟩)) fuel' rfl
theorem drawRegion_sound (hP:TabOk P tb) (hΓ:OrcFit P Γ mine) {ops:Array Oper} {A:List (List Nat)} {Q:Exit→Act→World→Prop} (hQ: ∀c a w,¬Q (.panic c) a w) {K:St→Option ρ} (F:Facts mine w0 st a.tmps w μ ok)
 (h:drawRegion tb Γ ops A (numbered 0 ops.toList) st K=some out) (hn:Goes mine w0 a.defers K out (Q .normal)):wpAny P .any ops Q ops.size (Array.replicate ops.size false) a w:=by
 unfold drawRegion at h
 cases hA:chkA ops.toList A 0 ops.toList with
 |false=>rw[hA]at h;cases h
 |true=>
  rw[hA]at h
  simp only[cond_true]at h
  have hA:=chkA_spec hA
  cases hsm:(Nat.ble ops.size 4&&(splitT A [] (numbered 0 ops.toList)).1.any (hard Γ st ops.toList))with
  |true=>
   rw[hsm]at h
   exact drawAll_sound hP hΓ F h hn
  |false=>
  rw[hsm]at h
  simp only[cond_false]at h
  obtain⟨n1,n2⟩:=numbered_spec ops.toList 0
  have hN: ∀p∈numbered 0 ops.toList,ops[p.1]? =some p.2:=fun p hp=>by have:=(n1 p hp).1;simpa using this
  have hnd:((numbered 0 ops.toList).map (·.1)).Nodup:=by rw[n2];exact List.nodup_range'
  have hmem: ∀i,i<ops.size→ ∃p∈numbered 0 ops.toList,p.1=i:=by
   intro i hi
   have:i∈(numbered 0 ops.toList).map (·.1):=by rw[n2];simp [hi]
   obtain⟨p,hp,e⟩:=List.mem_map.1 this
   exact⟨p,hp,e⟩
  have hlt: ∀p∈numbered 0 ops.toList,p.1<ops.size:=fun p hp=>(Array.getElem?_eq_some_iff.1 (hN p hp)).1
  have hrep: ∀i,i<ops.size→(Array.replicate ops.size false).getD i true=false:=fun i hi=>by simp [hi]
  have hrep': ∀i,(Array.replicate ops.size false).getD i false=false:=fun i=>by
   rcases Nat.lt_or_ge i ops.size with h|h
   ·simp [h]
   ·simp [h]
  have hsh0:Shut A (Array.replicate ops.size false) ops.size:=fun i _ hl=>by rw[hrep' i]at hl;cases hl
  have hunl:unl ops (Array.replicate ops.size false)≤ops.size:=by
   have:=List.countP_le_length (p:=fun i=> !(Array.replicate ops.size false).getD i true) (l:=List.range ops.size)
   simpa [unl]using this
  have cut: ∀(H:List Nat) (listed:Array Bool) (st':St) (tm':Array Value) (μ':Locs) (fuel:Nat) (N:List (Nat×Oper)),(∀p,p∈N↔p∈numbered 0 ops.toList∧p.1 ∉ H)→(N.map (·.1)).Nodup→Listed A ops listed H→unl ops listed≤fuel→
   Facts mine w0 st' tm' w μ' ok→drawST tb Γ ops.toList A (splitT A [] N).1 (splitT A [] N).2 st' K=some out→wpAny P .any ops Q fuel listed ⟨tm',a.defers⟩ w:=by
   intro H listed st' tm' μ' fuel N hNm hNn hL hf F' h'
   have hsp:=splitT_append A N []
   have hS: ∀p∈(splitT A [] N).1,p∈N:=fun p hp=>by rw[←hsp];simp [hp]
   have hT: ∀p∈(splitT A [] N).2,p∈N:=fun p hp=>by rw[←hsp];simp [hp]
   have hun: ∀p∈N,listed.getD p.1 true=false:=by
    intro p hp
    obtain⟨h1,h2⟩:=(hNm p).1 hp
    cases hl:listed.getD p.1 true with
    |false=>rfl
    |true=>exact absurd ((hL.iff _ (hlt p h1)).1 hl) h2
   refine drawST_sound (a:=⟨tm',a.defers⟩) hP hΓ hA (fun p hp=>hN p ((hNm p).1 (hS p hp)).1) (fun p hp=>hN p ((hNm p).1 (hT p hp)).1) ?_ h' hL.size (fun p hp=> ?_) (fun p hp=>hun p (hT p hp)) (fun i hi hu=> ?_) hL.shut hf F' hn
   ·rw[←hsp,List.map_append]at hNn
    exact(List.nodup_append.1 hNn).2.1
   ·rw[getD_listed hL.size (hlt p ((hNm p).1 (hS p hp)).1) false];exact hun p (hS p hp)
   ·obtain⟨p,hp,rfl⟩:=hmem i hi
    have hpN:p∈N:=(hNm p).2 ⟨hp,fun hH=>by rw[(hL.iff _ hi).2 hH]at hu;cases hu⟩
    rw[←hsp]at hpN
    rcases List.mem_append.1 hpN with h|h
    ·exact .inr (List.mem_map.2 ⟨p,h,rfl⟩)
    ·exact .inl (List.mem_map.2 ⟨p,h,rfl⟩)
  have hL0:Listed A ops (Array.replicate ops.size false) []:=⟨by simp,fun i hi=>by rw[hrep i hi];simp,hsh0⟩
  cases hw:(splitT A [] (numbered 0 ops.toList)).1.any (hard Γ st ops.toList)with
  |false=>
   rw[hw]at h
   simp only[cond_false]at h
   exact cut [] _ st a.tmps μ _ (numbered 0 ops.toList) (fun p=>by simp) hnd hL0 hunl F h
  |true=>
   rw[hw]at h
   simp only[cond_true]at h
   cases hs:Region.noSelect ops with
   |false=>rw[hs]at h;cases h
   |true=>
    rw[hs]at h
    simp only[cond_true]at h
    refine hoist_sound (B:=List.range ops.size) hP hA hs hQ (numbered 0 ops.toList) _ [] st a w μ ok ops.size (fun p hp=>⟨hN p hp,List.mem_range.2 (hlt p hp)⟩) (by simp) hL0 hunl F h ?_
    intro listed H st' tm' μ' fuel hB hL hf F' h'
    cases hm:(splitT A [] (without H (numbered 0 ops.toList))).1.any (hard Γ st' ops.toList)with
    |true=>
     rw[hm]at h'
     simp only[cond_true]at h'
     cases hb:fewB A (without H (numbered 0 ops.toList))with
     |false=>
      rw[hb]at h'
      simp only[cond_false]at h'
      refine hoistX_sound (B:=List.range ops.size) hP hA hs hQ (numbered 0 ops.toList) listed H st' ⟨tm',a.defers⟩ w μ' ok fuel (fun p hp=>⟨hN p hp,List.mem_range.2 (hlt p hp)⟩) hB hL hf F' h' ?_
      intro listed H st' tm' μ' fuel hB hL hf F' h'
      cases hb:fewB A (without H (numbered 0 ops.toList))with
      |false=>
       rw[hb]at h'
       simp only[cond_false]at h'
       cases hlo:lateOk Γ ops A (without H (numbered 0 ops.toList)) st' with
       |false=>
        rw[hlo]at h'
        exact sched_sound (a:=⟨tm',a.defers⟩) hP hΓ hA hs hQ (fun p hp=>⟨hN p hp,List.mem_range.2 (hlt p hp)⟩) _ fuel listed H st' w μ' ok hB hL hf F' h' hn
       |true=>
        rw[hlo]at h'
        simp only[cond_true]at h'
        have hsp:=splitT_append A ((without H (numbered 0 ops.toList)).filter fun p=> !lateB ops A p) []
        have hWN: ∀p,p∈without H (numbered 0 ops.toList)↔p∈numbered 0 ops.toList∧p.1 ∉ H:=fun p=>without_mem
        have hun: ∀p∈without H (numbered 0 ops.toList),listed.getD p.1 true=false:=by
         intro p hp
         obtain⟨h1,h2⟩:=(hWN p).1 hp
         cases hl:listed.getD p.1 true with
         |false=>rfl
         |true=>exact absurd ((hL.iff _ (hlt p h1)).1 hl) h2
        have hTD: ∀p∈(splitT A [] ((without H (numbered 0 ops.toList)).filter fun p=> !lateB ops A p)).2,p∈without H (numbered 0 ops.toList)∧lateB ops A p=false:=fun p hp=>by
         have:p∈(without H (numbered 0 ops.toList)).filter fun p=> !lateB ops A p:=by rw[←hsp];simp [hp]
         have:=List.mem_filter.1 this
         exact⟨this.1,by simpa using this.2⟩
        have hTT:=List.takeWhile_append_dropWhile (p:=early Γ ops A (without H (numbered 0 ops.toList)) st') (l:=(splitT A [] ((without H (numbered 0 ops.toList)).filter fun p=> !lateB ops A p)).2)
        have hSm: ∀p∈(splitT A [] ((without H (numbered 0 ops.toList)).filter fun p=> !lateB ops A p)).1++(splitT A [] ((without H (numbered 0 ops.toList)).filter fun p=> !lateB ops A p)).2.takeWhile (early Γ ops A (without H (numbered 0 ops.toList)) st'),p∈without H (numbered 0 ops.toList):=fun p hp=>by
         rcases List.mem_append.1 hp with hp|hp
         ·have:p∈(without H (numbered 0 ops.toList)).filter fun p=> !lateB ops A p:=by rw[←hsp];simp [hp]
          exact(List.mem_filter.1 this).1
         ·exact(hTD p (by rw[←hTT];exact List.mem_append_left _ hp)).1
        have hTm: ∀p∈(splitT A [] ((without H (numbered 0 ops.toList)).filter fun p=> !lateB ops A p)).2.dropWhile (early Γ ops A (without H (numbered 0 ops.toList)) st'),p∈without H (numbered 0 ops.toList)∧lateB ops A p=false:=fun p hp=>hTD p (by rw[←hTT];exact List.mem_append_right _ hp)
        have hLm: ∀p∈(without H (numbered 0 ops.toList)).filter (lateB ops A),p∈without H (numbered 0 ops.toList):=fun p hp=>(List.mem_filter.1 hp).1
        have toF: ∀p∈without H (numbered 0 ops.toList),listed.getD p.1 false=false:=fun p hp=>by rw[getD_listed hL.size (hlt p ((hWN p).1 hp).1) false];exact hun p hp
        refine drawSTL_sound (a:=⟨tm',a.defers⟩) hP hΓ hA hs hQ (fun p hp=>hN p ((hWN p).1 (hSm p hp)).1) (fun p hp=>hN p ((hWN p).1 (hLm p hp)).1) (fun p hp=>hN p ((hWN p).1 (hTm p hp).1).1) (fun p hp=>(hTm p hp).2) ?_ h' hL.size (fun p hp=>toF p (hSm p hp)) (fun p hp=>toF p (hLm p hp)) (fun p hp=>hun p (hTm p hp).1) (fun i hi hu=> ?_) hL.shut hf F' hn
        ·have h9:(((without H (numbered 0 ops.toList)).filter fun p=> !lateB ops A p).map (·.1)).Nodup:=by
          have:=without_nodup (H:=H) hnd
          exact(List.filter_sublist.map _).nodup this
         rw[←hsp,List.map_append]at h9
         have h8:=(List.nodup_append.1 h9).2.1
         rw[←hTT,List.map_append]at h8
         exact(List.nodup_append.1 h8).2.1
        ·obtain⟨p,hp,rfl⟩:=hmem i hi
         have hpN:p∈without H (numbered 0 ops.toList):=(hWN p).2 ⟨hp,fun hH=>by rw[(hL.iff _ hi).2 hH]at hu;cases hu⟩
         cases hlb:lateB ops A p with
         |true=>exact .inr (.inr (List.mem_map.2 ⟨p,List.mem_filter.2 ⟨hpN,hlb⟩,rfl⟩))
         |false=>
          have:p∈(without H (numbered 0 ops.toList)).filter fun p=> !lateB ops A p:=List.mem_filter.2 ⟨hpN,by rw[hlb];rfl⟩
          rw[←hsp]at this
          rcases List.mem_append.1 this with h|h
          ·exact .inr (.inl (List.mem_map.2 ⟨p,List.mem_append_left _ h,rfl⟩))
          ·rw[←hTT]at h
           rcases List.mem_append.1 h with h|h
           ·exact .inr (.inl (List.mem_map.2 ⟨p,List.mem_append_right _ h,rfl⟩))
           ·exact .inl (List.mem_map.2 ⟨p,h,rfl⟩)
      |true=>
       rw[hb]at h'
       simp only[cond_true]at h'
       exact orders_sound0 hP hΓ _ fuel _ st' ⟨tm',a.defers⟩ w μ' ok hf F' (fun o ho=>allSame_some h' _ (List.mem_map.2 ⟨o,ho,rfl⟩)) hn
     |true=>
      rw[hb]at h'
      simp only[cond_true]at h'
      exact orders_sound0 hP hΓ _ fuel _ st' ⟨tm',a.defers⟩ w μ' ok hf F' (fun o ho=>allSame_some h' _ (List.mem_map.2 ⟨o,ho,rfl⟩)) hn
    |false=>
    rw[hm]at h'
    simp only[cond_false]at h'
    exact cut H listed st' tm' μ' fuel (without H (numbered 0 ops.toList)) (fun p=>without_mem) (without_nodup hnd) hL hf F' h'
end
end Go.AM
