import Derived.Test.YthnonmlhgafalaaGreatZAmStep
import Derived.Deep.LoopGhost
set_option linter.unusedVariables false
set_option linter.unusedSectionVars false
set_option linter.unusedSimpArgs false
namespace Go.AM
theorem posN_spec: ∀ {L:List Nat} {s i k:Nat},posN s L i=some k→ ∃j,k=i+j∧L[j]? =some s:=by
 intro L
 induction L with
 |nil=>intro s i k h;cases h
 |cons a L ih=>
  intro s i k h
  simp only[posN]at h
  cases hb:Nat.beq a s with
  |true=>
   rw[hb]at h
   simp only[cond_true,Option.some.injEq]at h
   exact⟨0,by omega,by simp [Nat.eq_of_beq_eq_true hb]⟩
  |false=>
   rw[hb]at h
   obtain⟨j,h1,h2⟩:=ih h
   exact⟨j+1,by omega,by simpa using h2⟩
def nthN (L:List Nat) (k:Nat):Nat:=L.getD k 0
theorem posN_nth {L:List Nat} {s k:Nat} (h:posN s L 0=some k):nthN L k=s:=by
 obtain⟨j,h1,h2⟩:=posN_spec h
 rw[Nat.zero_add]at h1
 subst h1
 simp [nthN,List.getD_eq_getElem?_getD,h2]
section
variable {w:World} {μ ν:Locs} {ok ok':OK} {ρ:Nat→Option Nat} {wk:Bool}
structure Ren (μ ν:Locs) (ok ok':OK) (wk:Bool) (ρ:Nat→Option Nat):Prop where
 loc: ∀s k,ρ s=some k→ν k=μ s
 ok: ∀fr b,ok fr b→ok' (fr&&wk) b
theorem rp_mono {w:World} {o o':Nat→Prop} (h: ∀b,o b→o' b) {t:Ty} {x:t.D} {off:Nat} {v:Value} (hr:RpRel w o t x off v):RpRel w o' t x off v:=by
 obtain⟨b,o1,cs,e,h1,h2,h3⟩:=hr
 exact⟨b,o1,cs,e,h b h1,TRel.mono (fun _ _=>rfl) h h2,h3⟩
theorem enc_ren (hR:Ren μ ν ok ok' wk ρ): ∀ {t:Ty} {fr:Bool} {x:t.D} {us:List Value},All2 (SVRel0 w μ ok) (enc t fr x) us→All2 (SVRel0 w ν ok') (enc t (fr&&wk) x) us:=by
 intro t
 induction t with
 |int k=>intro fr x us hh;cases hh with|cons h1 h2=>cases h2;exact .cons h1 .nil
 |bool=>intro fr x us hh;cases hh with|cons h1 h2=>cases h2;exact .cons h1 .nil
 |str=>intro fr x us hh;cases hh with|cons h1 h2=>cases h2;exact .cons h1 .nil
 |unit=>intro fr x us hh;cases hh;exact .nil
 |sl t _=>intro fr x us hh;cases hh with|cons h1 h2=>cases h2;exact .cons ⟨TRel.mono (fun _ _=>rfl) (hR.ok fr) h1.1,h1.2⟩ .nil
 |pair a b iha ihb=>
  intro fr x us hh
  obtain⟨u,v,rfl,h1,h2⟩:=hh.split
  exact(iha h1).append (ihb h2)
theorem enc_len: ∀ {t:Ty} {x:t.D} (f g:Bool),(enc t f x).length=(enc t g x).length:=by
 intro t
 induction t with
 |pair a b iha ihb=>intro x f g;simp [enc,iha f g,ihb f g]
 |_=>intro x f g;rfl
theorem renC_rel (hR:Ren μ ν ok ok' wk ρ) {c d:Cap} {v:Value} (h:CapRel w μ ok c v) (he:renC wk ρ c=some d):CapRel w ν ok' d v:=by
 unfold CapRel at*
 cases c with
 |ref s off=>
  simp only[renC]at he
  split at he
  ·rename_i k hk
   cases he
   obtain⟨b,h1,h2⟩:=h
   exact⟨b,by rw[hR.loc s k hk];exact h1,h2⟩
  ·cases he
 |ptrD fr t x=>
  cases he
  exact rp_mono (hR.ok fr) h
 |valD fr t x=>
  cases he
  simp only[capVal]at*
  split at h
  ·rename_i y hy
   have h1:All2 (SVRel0 w μ ok) (enc t fr x) [v]:=by rw[hy];exact .cons h .nil
   have h2:=enc_ren hR h1
   have hl:=enc_len (x:=x) fr (fr&&wk)
   rw[hy]at hl
   match hz:enc t (fr&&wk) x,hl with
   |[z],_=>
    rw[hz]at h2
    cases h2 with
    |cons h3 _=>exact h3
  ·rename_i hn
   obtain⟨us,e,hh⟩:=h
   have h2:=enc_ren hR hh
   split
   ·rename_i z hz
    have hl:=enc_len (x:=x) fr (fr&&wk)
    rw[hz]at hl
    match hq:enc t fr x,hl with
    |[z'],_=>exact absurd hq (hn z')
   ·exact⟨us,e,h2⟩
theorem renCs_rel (hR:Ren μ ν ok ok' wk ρ): ∀ {cs ds:List Cap} {vs:List Value},All2 (CapRel w μ ok) cs vs→renCs wk ρ cs=some ds→All2 (CapRel w ν ok') ds vs:=by
 intro cs
 induction cs with
 |nil=>intro ds vs h he;simp only[renCs,Option.some.injEq]at he;subst he;cases h;exact .nil
 |cons c cs ih=>
  intro ds vs h he
  cases h with
  |cons h1 h2=>
   simp only[renCs]at he
   split at he
   ·rename_i x y e1 e2
    cases he
    exact .cons (renC_rel hR h1 e1) (ih h2 e2)
   ·cases he
theorem renS_rel (hR:Ren μ ν ok ok' wk ρ) {x y:SV} {v:Value} (h:SVRel w μ ok x v) (he:renS wk ρ x=some y):SVRel w ν ok' y v∧(y= .junk→x= .junk):=by
 cases x with
 |junk=>cases he;exact⟨h,fun _=>rfl⟩
 |bool b=>cases he;exact⟨h,fun e=>by cases e⟩
 |int k n=>cases he;exact⟨h,fun e=>by cases e⟩
 |str s=>cases he;exact⟨h,fun e=>by cases e⟩
 |nilp=>cases he;exact⟨h,fun e=>by cases e⟩
 |nils=>cases he;exact⟨h,fun e=>by cases e⟩
 |nilf=>cases he;exact⟨h,fun e=>by cases e⟩
 |nilm=>cases he;exact⟨h,fun e=>by cases e⟩
 |sm fr kt vt es=>
  cases he
  refine⟨?_,fun e=>by cases e⟩
  rcases(h:SVRel0 w μ ok (.sm fr kt vt es) v)with h|⟨b,e,hb,h⟩
  ·exact .inl h
  ·exact .inr ⟨b,e,hR.ok fr b hb,h.mono (fun _ _=>rfl) (hR.ok fr) rfl⟩
 |sl fr t nl xs=>cases he;exact⟨⟨TRel.mono (fun _ _=>rfl) (hR.ok fr) h.1,h.2⟩,fun e=>by cases e⟩
 |rp fr t z off=>cases he;exact⟨rp_mono (hR.ok fr) h,fun e=>by cases e⟩
 |aptr s base len idx=>cases he
 |gp g len i=>cases he
 |hptr s sz i off=>cases he
 |ptr s off=>
  simp only[renS]at he
  split at he
  ·rename_i k hk
   cases he
   obtain⟨b,h1,h2⟩:=h
   exact⟨⟨b,by rw[hR.loc s k hk];exact h1,h2⟩,fun e=>by cases e⟩
  ·cases he
 |mref s=>
  simp only[renS]at he
  split at he
  ·rename_i k hk
   cases he
   obtain⟨b,h1,h2⟩:=(h:SVRel0 w μ ok (.mref s) v)
   exact⟨⟨b,by rw[hR.loc s k hk];exact h1,h2⟩,fun e=>by cases e⟩
  ·cases he
 |cut s sz lo hi=>cases he
 |hot s n=>
  simp only[renS]at he
  split at he
  ·rename_i k hk
   cases he
   refine⟨?_,fun e=>by cases e⟩
   show v=slv (ν k) n∧(∀m,n=some m→m≤(ν k).len)∧(ν k).len≤9223372036854775807
   rw[hR.loc s k hk];exact h
  ·cases he
 |fn f caps=>
  simp only[renS]at he
  split at he
  ·rename_i cs hc
   cases he
   obtain⟨vs,e,hh⟩:=h
   exact⟨⟨vs,e,renCs_rel hR hh hc⟩,fun e=>by cases e⟩
  ·cases he
theorem renL_rel (hR:Ren μ ν ok ok' wk ρ): ∀ {xs ys:List SV} {vs:List Value},All2 (SVRel w μ ok) xs vs→renL wk ρ xs=some ys→All2 (SVRel w ν ok') ys vs:=by
 intro xs
 induction xs with
 |nil=>intro ys vs h he;simp only[renL,Option.some.injEq]at he;subst he;cases h;exact .nil
 |cons x xs ih=>
  intro ys vs h he
  cases h with
  |cons h1 h2=>
   simp only[renL]at he
   split at he
   ·rename_i y z e1 e2
    cases he
    exact .cons (renS_rel hR h1 e1).1 (ih h2 e2)
   ·cases he
theorem renT_rel (hR:Ren μ ν ok ok' wk ρ): ∀ {xs ys:List (Bool×List SV)} {vs:List Value},All2 (compRel w μ ok) xs vs→renT wk ρ xs=some ys→All2 (compRel w ν ok') ys vs:=by
 intro xs
 induction xs with
 |nil=>intro ys vs h he;simp only[renT,Option.some.injEq]at he;subst he;cases h;exact .nil
 |cons x xs ih=>
  intro ys vs h he
  obtain⟨b,cs⟩:=x
  cases h with
  |cons h1 h2=>
   simp only[renT]at he
   split at he
   ·rename_i y z e1 e2
    cases he
    refine .cons ?_ (ih h2 e2)
    cases b with
    |true=>obtain⟨us,e,hu⟩:=h1;exact⟨us,e,renL_rel hR hu e1⟩
    |false=>
     obtain⟨y',e,hy⟩:=h1
     have e:cs=[y']:=e
     subst e
     have h3:=renL_rel hR (.cons hy .nil) e1
     cases h3 with
     |cons h4 h5=>cases h5;exact⟨_,rfl,h4⟩
   ·cases he
theorem renA_rel (hR:Ren μ ν ok ok' wk ρ) {x y:AV} {v:Value} (h:AVRel w μ ok x v) (he:renA wk ρ x=some y):AVRel w ν ok' y v:=by
 cases x with
 |one x=>
  by_cases hj:x= .junk
  ·subst hj;cases he
  ·have he':(match renS wk ρ x with|some z=>some (AV.one z)|none=>none)=some y:=by
    cases x<;>first|exact absurd rfl hj|exact he
   split at he'
   ·rename_i z hz
    cases he'
    obtain⟨g1,g2⟩:=renS_rel hR (by rwa [AVRel.eq1 hj]at h) hz
    rw[AVRel.eq1 (fun e=>hj (g2 e))];exact g1
   ·cases he'
 |agg cs=>
  simp only[renA]at he
  split at he
  ·rename_i z hz
   cases he
   obtain⟨vs,e,hh⟩:=h
   exact⟨vs,e,renL_rel hR hh hz⟩
  ·cases he
 |tup l=>
  simp only[renA]at he
  split at he
  ·rename_i z hz
   cases he
   obtain⟨vs,e,hh⟩:=h
   exact⟨vs,e,renT_rel hR hh hz⟩
  ·cases he
 |own cs=>exact h.elim
 |arr f t xs=>exact h.elim
 |mapO f kt vt es=>exact h.elim
 |gho o=>exact h.elim
theorem renAs_rel (hR:Ren μ ν ok ok' wk ρ): ∀ {xs ys:List AV} {vs:List Value},All2 (AVRel w μ ok) xs vs→renAs wk ρ xs=some ys→All2 (AVRel w ν ok') ys vs:=by
 intro xs
 induction xs with
 |nil=>intro ys vs h he;simp only[renAs,Option.some.injEq]at he;subst he;cases h;exact .nil
 |cons x xs ih=>
  intro ys vs h he
  cases h with
  |cons h1 h2=>
   simp only[renAs]at he
   split at he
   ·rename_i y z e1 e2
    cases he
    exact .cons (renA_rel hR h1 e1) (ih h2 e2)
   ·cases he
theorem renAs_get: ∀ {xs ys:List AV},renAs wk ρ xs=some ys→ys.length=xs.length∧ ∀(k:Nat) x,xs[k]? =some x→ ∃y,ys[k]? =some y∧renA wk ρ x=some y:=by
 intro xs
 induction xs with
 |nil=>intro ys he;simp only[renAs,Option.some.injEq]at he;subst he;exact⟨rfl,fun k x h=>by simp at h⟩
 |cons x xs ih=>
  intro ys he
  simp only[renAs]at he
  split at he
  ·rename_i y z e1 e2
   cases he
   obtain⟨g1,g2⟩:=ih e2
   refine⟨by simp [g1],fun k x' h=> ?_⟩
   cases k with
   |zero=>simp only[List.getElem?_cons_zero,Option.some.injEq]at h;subst h;exact⟨y,rfl,e1⟩
   |succ k=>simpa using g2 k x' (by simpa using h)
  ·cases he
theorem renA_owner {x y:AV} (he:renA wk ρ x=some y):y.isOwner=x.isOwner:=by
 cases x with
 |one x=>
  by_cases hj:x= .junk
  ·subst hj;cases he
  ·have he':(match renS wk ρ x with|some z=>some (AV.one z)|none=>none)=some y:=by
    cases x<;>first|exact absurd rfl hj|exact he
   split at he'<;>cases he'
   rfl
 |agg cs=>simp only[renA]at he;split at he<;>cases he;rfl
 |tup cs=>simp only[renA]at he;split at he<;>cases he;rfl
 |own cs=>simp only[renA]at he;split at he<;>cases he;rfl
 |arr f t xs=>cases he;rfl
 |mapO f kt vt es=>cases he;rfl
 |gho o=>cases he
theorem renOwn_rel (hR:Ren μ ν ok ok' wk ρ) {x y:AV} {i j:Nat} (hij:ν j=μ i) (h:OwnRel w μ ok i x) (he:renA wk ρ x=some y):OwnRel w ν ok' j y:=by
 cases x with
 |own cs=>
  simp only[renA]at he
  split at he
  ·rename_i z hz
   cases he
   obtain⟨b,c,E,h1,h2,h3⟩:=h
   exact⟨b,c,E,by rw[hij];exact h1,h2,renL_rel hR h3 hz⟩
  ·cases he
 |arr fr t xs=>
  cases he
  obtain⟨g1,g2,g3,g4⟩:=h
  refine⟨by rw[hij];exact g1,by rw[hij];exact g2,by rw[hij];exact g3, ?_⟩
  rcases g4 with g4|⟨b,c,E,k1,k2,k3,k4⟩
  ·exact .inl (by rw[hij];exact g4)
  ·refine .inr ⟨b,c,E,by rw[hij];exact k1,k2,by rw[hij];exact k3,fun q hq=> ?_⟩
   obtain⟨cs,t1,t2⟩:=k4 q hq
   exact⟨cs,TRel.mono (fun _ _=>rfl) (hR.ok fr) t1,t2⟩
 |mapO fr kt vt es=>
  cases he
  obtain⟨b,h1,h2⟩:=h
  exact⟨b,by rw[hij];exact h1,h2.mono (fun _ _=>rfl) (hR.ok fr) rfl⟩
 |one x=>
  have ho:=renA_owner he
  cases y<;>first|trivial|cases ho
 |agg x=>
  have ho:=renA_owner he
  cases y<;>first|trivial|cases ho
 |tup x=>
  have ho:=renA_owner he
  cases y<;>first|trivial|cases ho
 |gho o=>cases he
end
section
variable {mine:Cx} {w0:World} {st:St} {tm:Array Value} {w:World} {μ:Locs} {ok:OK}
theorem dropAll_ok: ∀(L:List Nat) {st:St},Facts mine w0 st tm w μ ok→Facts mine w0 (dropAll L st) tm w μ ok∧(dropAll L st).length=st.length∧
 (∀i,((dropAll L st).ow i).isOwner=true→i ∉ L∧(st.ow i).isOwner=true)∧(∀i,((dropAll L st).at i).isGho=(st.at i).isGho):=by
 intro L
 induction L with
 |nil=>intro st F;exact⟨F,rfl,fun i h=>⟨by simp,h⟩,fun _=>rfl⟩
 |cons s L ih=>
  intro st F
  obtain⟨h1,h2,h3,h4⟩:=ih (F.drop s)
  refine⟨h1,by rw[dropAll,h2,St.length_upd,St.length_kill],fun i hi=> ?_,fun i=> ?_⟩
  ·obtain⟨g1,g2⟩:=h3 i hi
   obtain⟨g3,g4⟩:=drop_owner g2
   exact⟨by simp [g1,g3],g4⟩
  ·rw[dropAll,h4,St.isGho_upd _ _ _ rfl,St.at_kill,AV.isGho_kill]
theorem drop_ownerK {st:St} {r i:Nat} (h:(St.ow (St.upd st r .junk) i).isOwner=true):i≠r∧(st.ow i).isOwner=true:=by
 by_cases e:i=r
 ·subst e
  rw[upd_junk_ow]at h;cases h
 ·refine⟨e, ?_⟩
  rw[St.ow_upd_ne _ _ (Ne.symm e)]at h
  exact h
theorem Facts.dropK {st:St} (F:Facts mine w0 st tm w μ ok) (r:Nat):Facts mine w0 (St.upd st r .junk) tm w μ ok:=by
 have hgi: ∀i,(St.at (St.upd st r .junk) i).isGho=(st.at i).isGho:=fun i=>St.isGho_upd _ r i rfl
 refine⟨fun i=> ?_,fun i=> ?_,F.size,fun i h1 h2=>by rw[hgi];exact F.gho i h1 (by rwa [St.length_upd]at h2),fun i h1=>by rw[hgi];exact F.real i h1,by rw[St.length_upd];exact F.len,F.pin,
  fun i b h1 h2=>F.ownB i b (drop_ownerK h1).2 h2,fun i j b h1 h2=>F.inj i j b (drop_ownerK h1).2 (drop_ownerK h2).2,F.okB,F.okT,F.okF,F.okS,F.fr⟩
 ·by_cases e:i=r
  ·subst e
   unfold St.upd
   by_cases hl:i<st.length
   ·rw[St.at_set_self _ _ _ hl]
    unfold AV.re
    split<;>trivial
   ·rw[St.at_out _ _ (by simp;omega)];trivial
  ·rw[St.at_upd_ne _ _ (Ne.symm e)];exact F.slots i
 ·by_cases e:i=r
  ·subst e;rw[upd_junk_ow];trivial
  ·rw[St.ow_upd_ne _ _ (Ne.symm e)];exact F.owns i
theorem dropR_ok: ∀(L:List Nat) {st:St},Facts mine w0 st tm w μ ok→Facts mine w0 (dropR L st) tm w μ ok∧(dropR L st).length=st.length∧
 (∀i,((dropR L st).ow i).isOwner=true→i ∉ L∧(st.ow i).isOwner=true)∧(∀i,((dropR L st).at i).isGho=(st.at i).isGho):=by
 intro L
 induction L with
 |nil=>intro st F;exact⟨F,rfl,fun i h=>⟨by simp,h⟩,fun _=>rfl⟩
 |cons s L ih=>
  intro st F
  obtain⟨h1,h2,h3,h4⟩:=ih (F.dropK s)
  refine⟨h1,by rw[dropR,h2,St.length_upd],fun i hi=> ?_,fun i=> ?_⟩
  ·obtain⟨g1,g2⟩:=h3 i hi
   obtain⟨g3,g4⟩:=drop_ownerK g2
   exact⟨by simp [g1,g3],g4⟩
  ·rw[dropR,h4,St.isGho_upd _ _ _ rfl]
theorem dropRL_ok (R t:List Nat) {st:St} (F:Facts mine w0 st tm w μ ok):Facts mine w0 (dropR R (dropAll t st)) tm w μ ok∧(dropR R (dropAll t st)).length=st.length∧
 (∀i,((dropR R (dropAll t st)).ow i).isOwner=true→i ∉ R++t∧(st.ow i).isOwner=true)∧(∀i,((dropR R (dropAll t st)).at i).isGho=(st.at i).isGho):=by
 obtain⟨a1,a2,a3,a4⟩:=dropAll_ok t F
 obtain⟨b1,b2,b3,b4⟩:=dropR_ok R a1
 refine⟨b1,b2.trans a2,fun i hi=> ?_,fun i=>(b4 i).trans (a4 i)⟩
 obtain⟨c1,c2⟩:=b3 i hi
 obtain⟨d1,d2⟩:=a3 i c2
 exact⟨fun h=>(List.mem_append.1 h).elim c1 d1,d2⟩
theorem St.at_append (st t:St) (i:Nat):St.at (st++t) i=if i<st.length then st.at i else St.at t (i-st.length):=by
 unfold St.at
 simp only[List.getD_eq_getElem?_getD]
 split
 ·rename_i h;rw[List.getElem?_append_left h]
 ·rename_i h;rw[List.getElem?_append_right (by omega)]
theorem Facts.grow1 (F:Facts mine w0 st tm w μ ok) (l:Loc):Facts mine w0 (st.kill st.length++[.gho .none]) tm w (upd μ st.length l) ok:=by
 have hlk:(st.kill st.length).length=st.length:=St.length_kill _ _
 have hat: ∀i,i<st.length→St.at (st.kill st.length++[.gho .none]) i=(st.at i).kill st.length:=fun i hi=>by
  rw[St.at_append,hlk,if_pos hi,St.at_kill]
 have hge: ∀i,¬i<st.length→St.at (st.kill st.length++[.gho .none]) i= .gho .none∨(St.at (st.kill st.length++[.gho .none]) i= .one .junk∧st.length<i):=fun i hi=>by
  rw[St.at_append,hlk,if_neg hi]
  by_cases e:i=st.length
  ·subst e;left;simp [St.at]
  ·right;refine⟨St.at_out _ _ (by simp;omega),by omega⟩
 have how: ∀i,St.ow (st.kill st.length++[.gho .none]) i=(st.ow i).kill st.length:=fun i=>by
  by_cases hi:i<st.length
  ·unfold St.ow;rw[hat i hi,AV.un_kill]
  ·rw[St.ow_out st i (by omega)]
   unfold St.ow
   rcases hge i hi with h|⟨h,_⟩
   ·rw[h];rfl
   ·rw[h];rfl
 have hμ: ∀(a:AV) s,(a.kill st.length).refers s=true→upd μ st.length l s=μ s:=by
  intro a s hs
  refine upd_ne μ l fun e=> ?_
  rw[e,AV.kill_self]at hs;cases hs
 have hlen:(st.kill st.length++[AV.gho .none]).length=st.length+1:=by simp [hlk]
 have hne: ∀i,(st.ow i).isOwner=true→i≠st.length:=fun i h e=>by rw[St.ow_out st i (by omega)]at h;cases h
 refine⟨fun i=> ?_,fun i=> ?_,F.size,fun i h1 h2=> ?_,fun i h1=> ?_,by rw[hlen];have:=F.len;omega,fun i l' hi=> ?_,fun i b h1 h2=> ?_,fun i j b h1 h2 h3 h4=> ?_,F.okB,F.okT,F.okF,F.okS,F.fr⟩
 ·by_cases hi:i<st.length
  ·rw[hat i hi]
   have hs:=(F.slots i).kill st.length
   cases hg:(st.at i).isGho with
   |true=>
    cases hsi:st.at i with
    |gho o=>cases o<;>trivial
    |_=>rw[hsi]at hg;cases hg
   |false=>exact hs.mono (fun _ _ _=>rfl) (fun _ _ h=>h) (hμ _) (fun _=>upd_ne μ l (by omega))
  ·rcases hge i hi with h|⟨h,_⟩
   ·rw[h];trivial
   ·rw[h];trivial
 ·rw[how i]
  refine((F.owns i).kill st.length).mono (fun _ _ _=>rfl) (fun _ _ h=>h) (hμ _) (fun ho=> ?_) (fun _ _ _=>rfl)
  rw[AV.isOwner_kill]at ho
  exact upd_ne μ l (hne i ho)
 ·by_cases hi:i<st.length
  ·rw[hat i hi,AV.isGho_kill];exact F.gho i h1 hi
  ·rcases hge i hi with h|⟨h,hlt⟩
   ·rw[h];rfl
   ·rw[hlen]at h2;omega
 ·have:=F.len
  rw[hat i (by omega),AV.isGho_kill];exact F.real i h1
 ·obtain⟨p1,p2,p3⟩:=F.pin i l' hi
  have:=F.len
  exact⟨p1,p2,by rw[upd_ne μ l (by omega)];exact p3⟩
 ·rw[how i,AV.isOwner_kill]at h1
  rw[upd_ne μ l (hne i h1)]at h2
  exact F.ownB i b h1 h2
 ·rw[how i,AV.isOwner_kill]at h1
  rw[how j,AV.isOwner_kill]at h2
  rw[upd_ne μ l (hne i h1)]at h3
  rw[upd_ne μ l (hne j h2)]at h4
  exact F.inj i j b h1 h2 h3 h4
theorem growN_ok (ν:Nat→Loc): ∀(k:Nat) {st:St} {μ:Locs},Facts mine w0 st tm w μ ok→
 Facts mine w0 (growN k st) tm w (fun i=>if st.length≤i∧i<st.length+k then ν i else μ i) ok∧(growN k st).length=st.length+k∧
 (∀i,((growN k st).ow i).isOwner=true→(st.ow i).isOwner=true)∧(∀i,i<st.length→((growN k st).at i).isGho=(st.at i).isGho):=by
 intro k
 induction k with
 |zero=>
  intro st μ F
  refine⟨?_,rfl,fun _ h=>h,fun _ _=>rfl⟩
  have:(fun i=>if st.length≤i∧i<st.length+0 then ν i else μ i)=μ:=by funext i;rw[if_neg (by omega)]
  rw[this];exact F
 |succ k ih=>
  intro st μ F
  have hlen:(st.kill st.length++[AV.gho .none]).length=st.length+1:=by simp [St.length_kill]
  obtain⟨h1,h2,h3,h4⟩:=ih (F.grow1 (ν st.length))
  rw[hlen]at h1 h2 h4
  refine⟨?_,by rw[growN,h2];omega,fun i hi=> ?_,fun i hi=> ?_⟩
  ·have:(fun i=>if st.length≤i∧i<st.length+(k+1)then ν i else μ i)=(fun i=>if st.length+1≤i∧i<st.length+1+k then ν i else upd μ st.length (ν st.length) i):=by
    funext i
    by_cases e:i=st.length
    ·subst e
     rw[if_pos (by omega),if_neg (by omega),upd_self]
    ·rw[upd_ne μ _ e]
     by_cases h:st.length≤i∧i<st.length+(k+1)
     ·rw[if_pos h,if_pos (by omega)]
     ·rw[if_neg h,if_neg (by omega)]
   rw[this];exact h1
  ·have:=h3 i hi
   unfold St.ow at this
   rw[St.at_append,St.length_kill]at this
   by_cases hl:i<st.length
   ·rw[if_pos hl,St.at_kill,AV.un_kill,AV.isOwner_kill]at this
    exact this
   ·rw[if_neg hl]at this
    exfalso
    by_cases e:i-st.length=0
    ·rw[e]at this;simp [St.at,AV.un,OV.av,AV.isOwner]at this
    ·rw[St.at_out _ _ (by simp;omega)]at this;cases this
  ·rw[growN,h4 i (by omega),St.at_append,St.length_kill,if_pos hi,St.at_kill,AV.isGho_kill]
theorem Facts.again (F:Facts mine w0 st tm w μ ok) {s:Nat} (l:Loc) (hn:(st.ow s).isOwner=false) (h1:mine.n≤s) (h2:mine.m≤s):Facts mine w0 (st.kill s) tm w (upd μ s l) ok:=by
 have hμ: ∀(a:AV) q,(a.kill s).refers q=true→upd μ s l q=μ q:=by
  intro a q hq
  refine upd_ne μ l fun e=> ?_
  rw[e,AV.kill_self]at hq;cases hq
 have how: ∀i,St.ow (st.kill s) i=(st.ow i).kill s:=fun i=>by
  unfold St.ow;rw[St.at_kill,AV.un_kill]
 have hne: ∀i,(st.ow i).isOwner=true→i≠s:=fun i h e=>by rw[e,hn]at h;cases h
 have hlen:=F.len
 refine⟨fun i=> ?_,fun i=> ?_,F.size,fun i g1 g2=> ?_,fun i g1=> ?_,by rw[St.length_kill];exact F.len,fun i l' hi=> ?_,fun i b g1 g2=> ?_,fun i j b g1 g2 g3 g4=> ?_,F.okB,F.okT,F.okF,F.okS,F.fr⟩
 ·rw[St.at_kill]
  have hs:=(F.slots i).kill s
  cases hg:(st.at i).isGho with
  |true=>
   cases hsi:st.at i with
   |gho o=>cases o<;>trivial
   |_=>rw[hsi]at hg;cases hg
  |false=>
   by_cases e:i=s
   ·subst e
    by_cases hlt:i<st.length
    ·rw[F.gho i h1 hlt]at hg;cases hg
    ·rw[St.at_out _ _ (by omega)];trivial
   ·exact hs.mono (fun _ _ _=>rfl) (fun _ _ h=>h) (hμ _) (fun _=>upd_ne μ l e)
 ·rw[how i]
  refine((F.owns i).kill s).mono (fun _ _ _=>rfl) (fun _ _ h=>h) (hμ _) (fun ho=> ?_) (fun _ _ _=>rfl)
  rw[AV.isOwner_kill]at ho
  exact upd_ne μ l (hne i ho)
 ·rw[St.at_kill,AV.isGho_kill];exact F.gho i g1 (by rwa [St.length_kill]at g2)
 ·rw[St.at_kill,AV.isGho_kill];exact F.real i g1
 ·obtain⟨p1,p2,p3⟩:=F.pin i l' hi
  exact⟨p1,p2,by rw[upd_ne μ l (by omega)];exact p3⟩
 ·rw[how i,AV.isOwner_kill]at g1
  rw[upd_ne μ l (hne i g1)]at g2
  exact F.ownB i b g1 g2
 ·rw[how i,AV.isOwner_kill]at g1
  rw[how j,AV.isOwner_kill]at g2
  rw[upd_ne μ l (hne i g1)]at g3
  rw[upd_ne μ l (hne j g2)]at g4
  exact F.inj i j b g1 g2 g3 g4
theorem killAll_ok (ν:Locs): ∀(U:List Nat) {st:St} {μ:Locs},Facts mine w0 st tm w μ ok→(∀s∈U,(st.ow s).isOwner=false∧mine.n≤s∧mine.m≤s)→
 Facts mine w0 (killAll U st) tm w (fun i=>if i∈U then ν i else μ i) ok∧(killAll U st).length=st.length∧
 (∀i,((killAll U st).ow i).isOwner=(st.ow i).isOwner)∧(∀i,((killAll U st).at i).isGho=(st.at i).isGho):=by
 intro U
 induction U with
 |nil=>
  intro st μ F _
  refine⟨?_,rfl,fun _=>rfl,fun _=>rfl⟩
  have:(fun i=>if i∈([]:List Nat)then ν i else μ i)=μ:=by funext i;simp
  rw[this];exact F
 |cons s U ih=>
  intro st μ F h
  obtain⟨a1,a2,a3⟩:=h s (by simp)
  have hko: ∀i,((st.kill s).ow i).isOwner=(st.ow i).isOwner:=fun i=>by
   unfold St.ow;rw[St.at_kill,AV.un_kill,AV.isOwner_kill]
  obtain⟨h1,h2,h3,h4⟩:=ih (F.again (ν s) a1 a2 a3) (fun q hq=>by rw[hko];exact h q (by simp [hq]))
  refine⟨?_,by rw[killAll,h2,St.length_kill],fun i=>by rw[killAll,h3,hko],fun i=>by rw[killAll,h4,St.at_kill,AV.isGho_kill]⟩
  have:(fun i=>if i∈s::U then ν i else μ i)=(fun i=>if i∈U then ν i else upd μ s (ν s) i):=by
   funext i
   by_cases hi:i∈U
   ·rw[if_pos hi,if_pos (by simp [hi])]
   ·rw[if_neg hi]
    by_cases e:i=s
    ·subst e;rw[if_pos (by simp),upd_self]
    ·rw[if_neg (by simp [hi,e]),upd_ne μ _ e]
  rw[this];exact h1
theorem reuse_spec {lo:Option Nat} {t:List Nat} {m:Nat}:(reuse lo t m).length≤m∧(∀s∈reuse lo t m,s∈t∧ ∃x,lo=some x∧x≤s)∧(t.Nodup→(reuse lo t m).Nodup):=by
 unfold reuse
 cases lo with
 |none=>exact⟨Nat.zero_le _,fun s h=>by simp at h,fun _=>List.nodup_nil⟩
 |some x=>
  refine⟨by simp;omega,fun s h=> ?_,fun h=> ?_⟩
  ·have h1:=List.mem_of_mem_take h
   have h2:=List.mem_filter.1 h1
   exact⟨h2.1,x,rfl,by simpa using h2.2⟩
  ·exact((List.filter_sublist (l:=t)).nodup h).sublist (List.take_sublist _ _)
theorem freeN_spec: ∀(l:List AV) (i:Nat),(∀s∈freeN i l,i≤s∧ ∃v,l[s-i]? =some v∧v.noneG=true)∧(freeN i l).Nodup:=by
 intro l
 induction l with
 |nil=>intro i;exact⟨(fun s h=>nomatch h),List.nodup_nil⟩
 |cons v r ih=>
  intro i
  obtain⟨h1,h2⟩:=ih (i+1)
  have up: ∀s∈freeN (i+1) r,i≤s∧ ∃v',(v::r)[s-i]? =some v'∧v'.noneG=true:=fun s hs=>by
   obtain⟨a,v',b,c⟩:=h1 s hs
   refine⟨by omega,v', ?_,c⟩
   rw[show s-i=(s-(i+1))+1 by omega,List.getElem?_cons_succ];exact b
  rw[freeN]
  cases hv:v.noneG with
  |false=>exact⟨up,h2⟩
  |true=>
   refine⟨fun s hs=> ?_,List.nodup_cons.2 ⟨fun h=> ?_,h2⟩⟩
   ·rcases List.mem_cons.1 hs with rfl|hs
    ·exact⟨Nat.le_refl _,v,by rw[Nat.sub_self];rfl,hv⟩
    ·exact up s hs
   ·have:=(h1 i h).1;omega
theorem frees_spec (free:Bool) (st:St):(∀s∈frees free st,(st.ow s).isOwner=false∧s<st.length)∧(frees free st).Nodup:=by
 unfold frees
 cases free with
 |false=>exact⟨(fun s h=>nomatch h),List.nodup_nil⟩
 |true=>
  obtain⟨h1,h2⟩:=freeN_spec st 0
  refine⟨fun s hs=> ?_,h2⟩
  obtain⟨_,v,b,c⟩:=h1 s hs
  rw[Nat.sub_zero]at b
  refine⟨?_,(List.getElem?_eq_some_iff.1 b).1⟩
  unfold St.ow St.at
  rw[List.getD_eq_getElem?_getD,b,Option.getD_some]
  cases v with
  |gho o=>cases o with
   |none=>rfl
   |_=>cases c
  |_=>cases c
theorem Facts.fill (F:Facts mine w0 st tm w μ ok) {s:Nat} {v:AV} (hn:(st.ow s).isOwner=false) (hl:s<st.length) (ho:v.isOwner=true) (hslot:(st.at s).isGho=false→SlotRel w μ ok s v (tm.getD s undef)) (hown:OwnRel w μ ok s v)
 (hb: ∀b,(μ s).b=some b→b<w.heap.size∧(w0.heap.size≤b∨mine.mine b)∧ ¬ok false b∧ ∀i,(st.ow i).isOwner=true→(μ i).b≠some b):Facts mine w0 (St.upd st s v) tm w μ ok:=by
 have hat: ∀i,i≠s→St.at (St.upd st s v) i=st.at i:=fun i hi=>St.at_upd_ne st v (Ne.symm hi)
 have how: ∀i,i≠s→St.ow (St.upd st s v) i=st.ow i:=fun i hi=>St.ow_upd_ne st v (Ne.symm hi)
 have hows:St.ow (St.upd st s v) s=v:=St.ow_upd_self st s (.inl ho) hl
 have hgi: ∀i,(St.at (St.upd st s v) i).isGho=(st.at i).isGho:=fun i=>St.isGho_upd st s i (AV.isGho_owner ho)
 refine⟨fun i=> ?_,fun i=> ?_,F.size,fun i h1 h2=>by rw[hgi];exact F.gho i h1 (by rwa [St.length_upd]at h2),fun i h1=>by rw[hgi];exact F.real i h1,by rw[St.length_upd];exact F.len,F.pin,
  fun i b h1 h2=> ?_,fun i j b h1 h2 h3 h4=> ?_,F.okB,F.okT,F.okF,F.okS,F.fr⟩
 ·by_cases e:i=s
  ·subst e
   unfold St.upd
   rw[St.at_set_self _ _ _ hl]
   cases hg:(st.at i).isGho with
   |true=>
    cases hsi:st.at i with
    |gho o=>trivial
    |_=>rw[hsi]at hg;cases hg
   |false=>
    have:(st.at i).re v=v:=by cases hsi:st.at i<;>first|rfl|(rw[hsi]at hg;cases hg)
    rw[this];exact hslot hg
  ·rw[hat i e];exact F.slots i
 ·by_cases e:i=s
  ·subst e;rw[hows];exact hown
  ·rw[how i e];exact F.owns i
 ·by_cases e:i=s
  ·subst e;exact⟨(hb b h2).1,(hb b h2).2.1,(hb b h2).2.2.1⟩
  ·rw[how i e]at h1;exact F.ownB i b h1 h2
 ·by_cases e:i=s
  ·subst e
   by_cases e':j=i
   ·exact e'.symm
   ·rw[how j e']at h2
    exact absurd h4 ((hb b h3).2.2.2 j h2)
  ·rw[how i e]at h1
   by_cases e':j=s
   ·subst e'
    exact absurd h3 ((hb b h4).2.2.2 i h1)
   ·rw[how j e']at h2;exact F.inj i j b h1 h2 h3 h4
theorem fillAll_ok: ∀(L:List Nat) (hs:List AV) {st:St},Facts mine w0 st tm w μ ok→L.length=hs.length→L.Nodup→(∀s∈L,(st.ow s).isOwner=false∧s<st.length)→(∀v∈hs,v.isOwner=true)→
 (∀(k s:Nat) (v:AV),L[k]? =some s→hs[k]? =some v→((st.at s).isGho=false→SlotRel w μ ok s v (tm.getD s undef))∧OwnRel w μ ok s v∧
  ∀b,(μ s).b=some b→b<w.heap.size∧(w0.heap.size≤b∨mine.mine b)∧ ¬ok false b∧(∀i,(st.ow i).isOwner=true→(μ i).b≠some b)∧ ∀s'∈L,s'≠s→(μ s').b≠some b)→
 Facts mine w0 (fillAll L hs st) tm w μ ok:=by
 intro L
 induction L with
 |nil=>intro hs st F _ _ _ _ _;cases hs<;>exact F
 |cons s L ih=>
  intro hs st F hl hn h1 h2 h3
  cases hs with
  |nil=>simp at hl
  |cons v hs=>
   simp only[fillAll]
   obtain⟨a1,a2⟩:=h1 s (by simp)
   obtain⟨b1,b2,b3⟩:=h3 0 s v rfl rfl
   rw[List.nodup_cons]at hn
   have F1:=F.fill a1 a2 (h2 v (by simp)) b1 b2 fun b hb=>⟨(b3 b hb).1,(b3 b hb).2.1,(b3 b hb).2.2.1,(b3 b hb).2.2.2.1⟩
   have hne: ∀s'∈L,s'≠s:=fun s' h e=>hn.1 (e▸h)
   refine ih hs F1 (by simpa using hl) hn.2 (fun s' h=> ?_) (fun v' h=>h2 v' (by simp [h])) fun k s' v' hk hv=> ?_
   ·rw[St.ow_upd_ne _ _ (Ne.symm (hne s' h)),St.length_upd]
    exact h1 s' (by simp [h])
   ·obtain⟨c1,c2,c3⟩:=h3 (k+1) s' v' (by simpa using hk) (by simpa using hv)
    have hmem:s'∈L:=List.mem_of_getElem? hk
    refine⟨fun hg=>c1 (by rwa [St.at_upd_ne _ _ (Ne.symm (hne s' hmem))]at hg),c2,fun b hb=> ?_⟩
    obtain⟨d1,d2,d3,d4,d5⟩:=c3 b hb
    refine⟨d1,d2,d3,fun i hi=> ?_,fun s2 hs2 hne2=>d5 s2 (by simp [hs2]) hne2⟩
    by_cases e:i=s
    ·subst e;exact d5 i (by simp) (Ne.symm (hne s' hmem))
    ·rw[St.ow_upd_ne _ _ (Ne.symm e)]at hi
     exact d4 i hi
theorem distN_nodup: ∀ {L:List Nat},distN L=true→L.Nodup:=by
 intro L
 induction L with
 |nil=>intro _;exact List.nodup_nil
 |cons s L ih=>
  intro h
  simp only[distN,Bool.and_eq_true]at h
  refine List.nodup_cons.2 ⟨fun hm=> ?_,ih h.2⟩
  have: ∀(L:List Nat) (i:Nat),s∈L→(match posN s L i with|some _=>false|none=>true)=true→False:=by
   intro L
   induction L with
   |nil=>intro i h;cases h
   |cons a L ih2=>
    intro i hm hp
    simp only[posN]at hp
    cases hb:Nat.beq a s with
    |true=>rw[hb]at hp;cases hp
    |false=>
     rw[hb]at hp
     rcases List.mem_cons.1 hm with rfl|hm
     ·rw[Nat.beq_refl]at hb;cases hb
     ·exact ih2 (i+1) hm hp
  exact this L 0 hm h.1
theorem upN_get: ∀(m a k:Nat),(upN a m)[k]? =if k<m then some (a+k)else none:=by
 intro m
 induction m with
 |zero=>intro a k;simp [upN]
 |succ m ih=>
  intro a k
  cases k with
  |zero=>simp [upN]
  |succ k=>
   simp only[upN,List.getElem?_cons_succ,ih]
   by_cases h:k<m
   ·rw[if_pos h,if_pos (by omega)];congr 1;omega
   ·rw[if_neg h,if_neg (by omega)]
theorem upN_length: ∀(m a:Nat),(upN a m).length=m:=by
 intro m
 induction m with
 |zero=>intro a;rfl
 |succ m ih=>intro a;simp [upN,ih]
theorem kindsOk_spec: ∀ {L:List Nat} {hs:List AV},kindsOk st L hs=true→L.length≤hs.length∧ ∀(k s:Nat) (v:AV),L[k]? =some s→hs[k]? =some v→sameKind (st.ow s) v=true:=by
 intro L
 induction L with
 |nil=>intro hs _;exact⟨Nat.zero_le _,fun k s v h=>by simp at h⟩
 |cons s L ih=>
  intro hs h
  cases hs with
  |nil=>cases h
  |cons v hs=>
   simp only[kindsOk,Bool.and_eq_true]at h
   obtain⟨g1,g2⟩:=ih h.2
   refine⟨by simp;omega,fun k s' v' h1 h2=> ?_⟩
   cases k with
   |zero=>cases h1;cases h2;exact h.1
   |succ k=>exact g2 k s' v' (by simpa using h1) (by simpa using h2)
theorem sameKind_slot {w w':World} {μ μ':Locs} {ok ok':OK} {s:Nat} {x y:AV} {v:Value} (hk:sameKind x y=true) (hl:μ' s=μ s) (h:SlotRel w μ ok s x v):SlotRel w' μ' ok' s y v:=by
 cases x<;>cases y<;>first|cases hk|skip
 ·obtain⟨b,h1,h2⟩:=h;exact⟨b,by rw[hl];exact h1,h2⟩
 ·have h:v=slv (μ s) none:=h
  show v=slv (μ' s) none
  rw[hl];exact h
 ·obtain⟨b,h1,h2⟩:=h;exact⟨b,by rw[hl];exact h1,h2⟩
end
theorem addN_pre: ∀(r L:List Nat),∃t,addN L r=L++t:=by
 intro r
 induction r with
 |nil=>intro L;exact⟨[],by simp [addN]⟩
 |cons s r ih=>
  intro L
  simp only[addN]
  split
  ·exact ih L
  ·obtain⟨t,h⟩:=ih (L++[s])
   exact⟨s::t,by rw[h];simp⟩
theorem reachN_pre (st:St): ∀(k:Nat) (L:List Nat) (i:Nat),∃t,reachN st k L i=L++t:=by
 intro k
 induction k with
 |zero=>intro L i;exact⟨[],by simp [reachN]⟩
 |succ k ih=>
  intro L i
  simp only[reachN]
  split
  ·rename_i s hs
   obtain⟨t,h⟩:=addN_pre (st.ow s).slots L
   obtain⟨t',h'⟩:=ih (addN L (st.ow s).slots) (i+1)
   exact⟨t++t',by rw[h',h];simp⟩
  ·exact⟨[],by simp⟩
section
variable {P:Program} {mine:Cx} {w0:World} {st:St} {a:Act} {w:World} {μ:Locs} {ok:OK} {tb:Tab} {Γ:Orc}
theorem nodup_inj: ∀ {L:List Nat} {j k s:Nat},L.Nodup→L[j]? =some s→L[k]? =some s→j=k:=by
 intro L
 induction L with
 |nil=>intro j k s _ hj;simp at hj
 |cons a L ih=>
  intro j k s h hj hk
  rw[List.nodup_cons]at h
  cases j with
  |zero=>
   cases k with
   |zero=>rfl
   |succ k=>
    simp only[List.getElem?_cons_zero,Option.some.injEq,List.getElem?_cons_succ]at hj hk
    subst hj
    exact absurd (List.mem_of_getElem? hk) h.1
  |succ j=>
   cases k with
   |zero=>
    simp only[List.getElem?_cons_zero,Option.some.injEq,List.getElem?_cons_succ]at hj hk
    subst hk
    exact absurd (List.mem_of_getElem? hj) h.1
   |succ k=>
    have:=ih h.2 (show L[j]? =some s by simpa using hj) (show L[k]? =some s by simpa using hk)
    rw[this]
theorem upN_nodup: ∀(m a:Nat),(upN a m).Nodup∧ ∀x∈upN a m,a≤x:=by
 intro m
 induction m with
 |zero=>intro a;exact⟨List.nodup_nil,fun x h=>by cases h⟩
 |succ m ih=>
  intro a
  obtain⟨h1,h2⟩:=ih (a+1)
  refine⟨List.nodup_cons.2 ⟨fun h=>by have:=h2 a h;omega,h1⟩,fun x hx=> ?_⟩
  rcases List.mem_cons.1 hx with rfl|hx
  ·exact Nat.le_refl _
  ·have:=h2 x hx;omega
theorem nthN_of {L:List Nat} {k s:Nat} (h:L[k]? =some s):nthN L k=s:=by simp [nthN,List.getD_eq_getElem?_getD,h]
theorem posN_shift: ∀(L:List Nat) (s i:Nat),posN s L i=(posN s L 0).map (· +i):=by
 intro L
 induction L with
 |nil=>intro s i;rfl
 |cons a L ih=>
  intro s i
  simp only[posN]
  cases hb:Nat.beq a s with
  |true=>simp
  |false=>
   simp only[cond_false]
   rw[ih s (i+1),ih s (0+1),Option.map_map]
   congr 1
   funext q
   simp only[Function.comp];omega
theorem posN_get: ∀ {L:List Nat} {k s:Nat},L.Nodup→L[k]? =some s→posN s L 0=some k:=by
 intro L
 induction L with
 |nil=>intro k s _ h;simp at h
 |cons a L ih=>
  intro k s hn h
  rw[List.nodup_cons]at hn
  simp only[posN]
  cases k with
  |zero=>
   simp only[List.getElem?_cons_zero,Option.some.injEq]at h
   subst h
   rw[Nat.beq_refl];rfl
  |succ k=>
   simp only[List.getElem?_cons_succ]at h
   cases hb:Nat.beq a s with
   |true=>
    obtain rfl:=Nat.eq_of_beq_eq_true hb
    exact absurd (List.mem_of_getElem? h) hn.1
   |false=>
    simp only[cond_false]
    rw[posN_shift,ih hn.2 h];rfl
theorem io_back (F:Facts mine w0 st a.tmps w μ ok) {R L:List Nat} {t U:List Nat} (hL:L=R++t) (hnd:L.Nodup) {gs:List AV} (hgs:renAs false (fun s=>posN s L 0) (L.map st.ow)=some gs) (hgo:gs.all AV.isOwner=true)
 {w1:World} {ok':OK} {μ':Locs} {r:AV} {gs':List AV} {v:Value} (hfr:Fr (ioMine gs fun k=>μ (nthN L k)) w w1) (h1: ∀fr b,ok' fr b→(w.heap.size≤b∧b<w1.heap.size)∨ok fr b) (h2: ∀b,ok' true b→ok' false b)
 (hr:AVRel w1 μ' ok' r v) (hO:OwnsOk w1 μ' ok' gs') (hnew: ∀k b,(ownAt gs' k).isOwner=true→(μ' k).b=some b→w.heap.size≤b∨ioMine gs (fun k=>μ (nthN L k)) b) (hpin: ∀k,k<R.length→μ' k=μ (nthN L k))
 {r':AV} {hs:List AV} (hr':renA true (fun k=>(R++(U++upN st.length (gs'.length-R.length-U.length)))[k]?) r=some r') (hhs:renAs true (fun k=>(R++(U++upN st.length (gs'.length-R.length-U.length)))[k]?) gs'=some hs)
 (hk:kindsOk st R hs=true) (hho:hs.all AV.isOwner=true)
 (hU1:U.length≤gs'.length-R.length) (hU2: ∀s∈U,(s∈t∨((st.ow s).isOwner=false∧s<st.length))∧mine.n≤s∧mine.m≤s) (hU3:U.Nodup):
 ∃μ2 ok1,Facts mine w0 (fillAll (R++(U++upN st.length (gs'.length-R.length-U.length))) hs (growN (gs'.length-R.length-U.length) (killAll U (dropR R (dropAll t st))))) a.tmps w1 μ2 ok1∧AVRel w1 μ2 ok1 r' v:=by
 obtain⟨m,hm⟩: ∃m,m=gs'.length-R.length-U.length:=⟨_,rfl⟩
 rw[←hm]at hr' hhs⊢
 obtain⟨hglen,hgget⟩:=renAs_get hgs
 obtain⟨hhlen,hhget⟩:=renAs_get hhs
 simp only[List.length_map]at hglen
 obtain⟨hkl,hkk⟩:=kindsOk_spec hk
 have hgk: ∀(k s:Nat),L[k]? =some s→ ∃g:AV,gs[k]? =some g∧g.isOwner=true∧(st.ow s).isOwner=true:=by
  intro k s hks
  obtain⟨g,e1,e2⟩:=hgget k (st.ow s) (by simp [hks])
  have ho:g.isOwner=true:=List.all_eq_true.1 hgo g (List.mem_of_getElem? e1)
  exact⟨g,e1,ho,by rw[←renA_owner e2];exact ho⟩
 have hmine: ∀b,ioMine gs (fun k=>μ (nthN L k)) b→ ∃s∈L,(st.ow s).isOwner=true∧(μ s).b=some b:=by
  intro b ⟨k,k1,k2⟩
  have hlt:k<L.length:=by
   rcases Nat.lt_or_ge k L.length with h|h
   ·exact h
   ·unfold ownAt at k1
    rw[List.getD_eq_getElem?_getD,List.getElem?_eq_none (by omega)]at k1;cases k1
  have hks:L[k]? =some L[k]:=List.getElem?_eq_getElem hlt
  obtain⟨g,e1,e2,e3⟩:=hgk k _ hks
  have e4:nthN L k=L[k]:=nthN_of hks
  simp only[e4]at k2
  exact⟨L[k],List.getElem_mem hlt,e3,k2⟩
 have hbase: ∀i,(st.ow i).isOwner=true→i<st.length:=fun i hi=>by
  rcases Nat.lt_or_ge i st.length with h|h
  ·exact h
  ·rw[St.ow_out _ _ h]at hi;cases hi
 have hgl:R.length+(U.length+m)=gs'.length:=by omega
 obtain⟨D1,D2,D3,D4⟩:=dropRL_ok R t F
 have hUd: ∀s∈U,((dropR R (dropAll t st)).ow s).isOwner=false:=fun s hs=>by
  cases hc:((dropR R (dropAll t st)).ow s).isOwner with
  |false=>rfl
  |true=>
   rcases(hU2 s hs).1 with h9|h9
   ·exact absurd (List.mem_append_right R h9) (D3 s hc).1
   ·have h8:=(D3 s hc).2
    rw[h9.1]at h8;cases h8
 obtain⟨K1,K2,K3,K4⟩:=killAll_ok (fun i=>μ' (R.length+(posN i U 0).getD 0)) U D1 (fun s hs=>⟨hUd s hs,(hU2 s hs).2⟩)
 obtain⟨G1,G2,G3,G4⟩:=growN_ok (fun i=>μ' (R.length+(U.length+(i-st.length)))) m K1
 rw[K2,D2]at G1 G2 G4
 obtain⟨μ2,hμ2⟩: ∃μ2:Locs,μ2=fun i=>if st.length≤i∧i<st.length+m then μ' (R.length+(U.length+(i-st.length)))else if i∈U then μ' (R.length+(posN i U 0).getD 0)else μ i:=⟨_,rfl⟩
 rw[←hμ2]at G1
 have hUL: ∀s∈U,(st.ow s).isOwner=true→s∈L:=fun s hs ho=>by
  rcases(hU2 s hs).1 with h9|h9
  ·rw[hL];exact List.mem_append_right R h9
  ·rw[h9.1]at ho;cases ho
 have hlow: ∀i,i<st.length→i ∉ U→μ2 i=μ i:=fun i hi hu=>by rw[hμ2];simp only;rw[if_neg (by omega),if_neg hu]
 have hSown: ∀i,((growN m (killAll U (dropR R (dropAll t st)))).ow i).isOwner=true→i ∉ L∧(st.ow i).isOwner=true:=fun i hi=>by
  have:=G3 i hi
  rw[K3]at this
  rw[hL];exact D3 i this
 have hUl: ∀s∈U,s<st.length:=fun s hs=>by
  rcases(hU2 s hs).1 with h9|h9
  ·have h8:s∈L:=by rw[hL];exact List.mem_append_right R h9
   obtain⟨k,hk,e⟩:=List.getElem_of_mem h8
   obtain⟨_,_,_,h3⟩:=hgk k s (by rw[List.getElem?_eq_getElem hk,e])
   exact hbase s h3
  ·exact h9.2
 have hsz:=F.fr.size
 have F2:Facts mine w0 (growN m (killAll U (dropR R (dropAll t st)))) a.tmps w1 μ2 (fun fr b=>ok fr b∨ok' fr b):=by
  refine G1.step (fun b hb=>hfr.block b (F.okB b hb) fun hmn=> ?_) (fun i b hi hb=> ?_) hfr.size (fun _ _ h=> .inl h) (fun b hb=> ?_) (fun b hb=>hb.elim (fun h=> .inl (F.okT b h)) (fun h=> .inr (h2 b h)))
   (fun b hb=> ?_) (fun i b hi hb hh=> ?_) ?_ ⟨hfr.os.trans F.fr.os,hfr.tape.trans F.fr.tape,hfr.output.trans F.fr.output,Nat.le_trans hsz hfr.size,fun k hk hmk=> ?_⟩
  ·obtain⟨s,_,e2,e3⟩:=hmine b hmn
   exact(F.ownB s b e2 e3).2.2 hb
  ·obtain⟨e1,e2⟩:=hSown i hi
   rw[hlow i (hbase i e2) fun hu=>e1 (hUL i hu e2)]at hb
   refine hfr.block b (F.ownB i b e2 hb).1 fun hmn=> ?_
   obtain⟨s,s1,s2,s3⟩:=hmine b hmn
   exact e1 (F.inj i s b e2 s2 hb s3▸s1)
  ·rcases hb with hb|hb
   ·exact Nat.lt_of_lt_of_le (F.okB b hb) hfr.size
   ·rcases h1 _ _ hb with h|h
    ·exact h.2
    ·exact Nat.lt_of_lt_of_le (F.okB b h) hfr.size
  ·rcases hb with hb|hb
   ·exact F.okF b hb
   ·rcases h1 _ _ hb with h|h
    ·exact Nat.le_trans hsz h.1
    ·exact F.okF b h
  ·obtain⟨e1,e2⟩:=hSown i hi
   rw[hlow i (hbase i e2) fun hu=>e1 (hUL i hu e2)]at hb
   have hB:=F.ownB i b e2 hb
   rcases hh with hh|hh
   ·exact hB.2.2 hh
   ·rcases h1 _ _ hh with h|h
    ·omega
    ·exact hB.2.2 h
  ·refine⟨fun b hb=> ?_,F.okS.glob,F.okS.gm⟩
   rcases hb with hb|hb
   ·exact F.okS.old b hb
   ·rcases h1 _ _ hb with h|h
    ·exact .inl (Nat.le_trans hsz h.1)
    ·exact F.okS.old b h
  ·rw[hfr.block k (Nat.lt_of_lt_of_le hk hsz) fun hmn=> ?_]
   ·exact F.fr.block k hk hmk
   ·obtain⟨s,_,e2,e3⟩:=hmine k hmn
    rcases(F.ownB s k e2 e3).2.1 with h|h
    ·omega
    ·exact hmk h
 have hLk: ∀k,k<R.length→R[k]? =L[k]? :=fun k hk=>by rw[hL,List.getElem?_append_left hk]
 have hRL: ∀s∈R,s∈L:=fun s hs=>by rw[hL];exact List.mem_append_left _ hs
 have hRU0: ∀s∈R,(st.ow s).isOwner=true→s ∉ U:=fun s hs ho hu=>by
  rcases(hU2 s hu).1 with h9|h9
  ·rw[hL]at hnd
   exact(List.nodup_append.1 hnd).2.2 s hs s h9 rfl
  ·rw[h9.1]at ho;cases ho
 have hLown: ∀s∈L,(st.ow s).isOwner=true:=fun s hs=>by
  obtain⟨k,hk,rfl⟩:=List.getElem_of_mem hs
  exact(hgk k _ (List.getElem?_eq_getElem hk)).choose_spec.2.2
 have hRU: ∀s∈R,s ∉ U:=fun s hs=>hRU0 s hs (hLown s (hRL s hs))
 have hloc: ∀k s,(R++(U++upN st.length m))[k]? =some s→μ2 s=μ' k:=by
  intro k s hks
  rcases Nat.lt_or_ge k R.length with hlt|hge
  ·rw[List.getElem?_append_left hlt]at hks
   have hs:L[k]? =some s:=by rw[←hLk k hlt];exact hks
   have hsl:s<st.length:=hbase s (hLown s (List.mem_of_getElem? hs))
   rw[hlow s hsl (hRU s (List.mem_of_getElem? hks)),hpin k hlt,nthN_of hs]
  ·rw[List.getElem?_append_right hge]at hks
   rcases Nat.lt_or_ge (k-R.length) U.length with hlt|hge2
   ·rw[List.getElem?_append_left hlt]at hks
    have hsU:s∈U:=List.mem_of_getElem? hks
    have hsl:=hUl s hsU
    rw[hμ2]
    simp only
    rw[if_neg (by omega),if_pos hsU,posN_get hU3 hks,Option.getD_some,show R.length+(k-R.length)=k by omega]
   ·rw[List.getElem?_append_right hge2,upN_get]at hks
    split at hks
    ·rename_i hlt
     cases hks
     rw[hμ2]
     simp only
     rw[if_pos (by omega),show R.length+(U.length+(st.length+(k-R.length-U.length)-st.length))=k by omega]
    ·cases hks
 have hR2:Ren μ' μ2 ok' (fun fr b=>ok fr b∨ok' fr b) true (fun k=>(R++(U++upN st.length m))[k]?):=⟨fun s k h=>hloc s k h,fun fr b h=>by rw[Bool.and_true];exact .inr h⟩
 refine⟨μ2,_, ?_,renA_rel hR2 hr hr'⟩
 have hL'len:(R++(U++upN st.length m)).length=hs.length:=by rw[List.length_append,List.length_append,upN_length,hhlen];exact hgl
 have hL'mem: ∀s∈R++(U++upN st.length m),(((st.ow s).isOwner=true→s∈L)∧s<st.length)∨(st.length≤s∧s<st.length+m):=by
  intro s hs
  rcases List.mem_append.1 hs with h|h
  ·exact .inl ⟨fun _=>hRL s h,hbase s (hLown s (hRL s h))⟩
  rcases List.mem_append.1 h with h|h
  ·exact .inl ⟨hUL s h,hUl s h⟩
  ·obtain⟨k,hk,e⟩:=List.getElem_of_mem h
   have:=upN_get m st.length k
   rw[List.getElem?_eq_getElem hk,e]at this
   split at this
   ·cases this;exact .inr ⟨by omega,by omega⟩
   ·cases this
 refine fillAll_ok _ hs F2 hL'len ?_ (fun s hsm=> ?_) (fun v hv=>List.all_eq_true.1 hho v hv) fun k s v hks hkv=> ?_
 ·rw[List.nodup_append]
  refine⟨?_, ?_,fun x hx y hy e=> ?_⟩
  ·rw[hL]at hnd;exact(List.nodup_append.1 hnd).1
  ·rw[List.nodup_append]
   refine⟨hU3,(upN_nodup m st.length).1,fun x hx y hy e=> ?_⟩
   have e1:=hUl x hx
   have e2:=(upN_nodup m st.length).2 y hy
   omega
  ·rcases List.mem_append.1 hy with hy|hy
   ·exact hRU x hx (e▸hy)
   ·have e1:=hbase x (hLown x (hRL x hx))
    have e2:=(upN_nodup m st.length).2 y hy
    omega
 ·refine⟨?_,by rw[G2];rcases hL'mem s hsm with h|h<;>omega⟩
  cases hc:((growN m (killAll U (dropR R (dropAll t st)))).ow s).isOwner with
  |false=>rfl
  |true=>
   obtain⟨e1,e2⟩:=hSown s hc
   rcases hL'mem s hsm with h|h
   ·exact absurd (h.1 e2) e1
   ·have:=hbase s e2;omega
 ·obtain⟨g,hg⟩: ∃g,gs'[k]? =some g:=by
   have:k<hs.length:=(List.getElem?_eq_some_iff.1 hkv).1
   exact⟨gs'[k]'(by omega),List.getElem?_eq_getElem _⟩
  obtain⟨v',e1,e2⟩:=hhget k g hg
  rw[hkv]at e1;cases e1
  have hvo:v.isOwner=true:=List.all_eq_true.1 hho v (List.mem_of_getElem? hkv)
  have hgo':g.isOwner=true:=by rw[←renA_owner e2];exact hvo
  have hat:ownAt gs' k=g:=by unfold ownAt;rw[List.getD_eq_getElem?_getD,hg];rfl
  have hls:=hloc k s hks
  refine⟨fun hgh=> ?_,renOwn_rel hR2 hls (hat▸hO.own k) e2,fun b hb=> ?_⟩
  ·rcases Nat.lt_or_ge k R.length with hlt|hge
   ·have hks':R[k]? =some s:=by rwa [List.getElem?_append_left hlt]at hks
    have hsl:s<st.length:=hbase s (hLown s (hRL s (List.mem_of_getElem? hks')))
    rw[G4 s hsl,K4,D4]at hgh
    have hsr:=F.slots s
    have how:st.at s=st.ow s:=by unfold St.ow;rw[AV.un_id hgh]
    rw[how]at hsr
    exact sameKind_slot (hkk k s v hks' hkv) (hlow s hsl (hRU s (List.mem_of_getElem? hks'))) hsr
   ·have hs2:mine.n≤s∧s<st.length+m:=by
     rw[List.getElem?_append_right hge]at hks
     rcases List.mem_append.1 (List.mem_of_getElem? hks)with h|h
     ·have:=hUl s h;exact⟨(hU2 s h).2.1,by omega⟩
     ·have e2:=(upN_nodup m st.length).2 s h
      have:=F.len
      obtain⟨q,hq,e3⟩:=List.getElem_of_mem h
      have e4:=upN_get m st.length q
      rw[List.getElem?_eq_getElem hq,e3]at e4
      split at e4
      ·cases e4;omega
      ·cases e4
    have:=F2.gho s hs2.1 (by rw[G2];omega)
    rw[this]at hgh;cases hgh
  ·rw[hls]at hb
   obtain⟨b1,b2⟩:=hO.blk k b (by rw[hat];exact hgo') hb
   have b3:=hnew k b (by rw[hat];exact hgo') hb
   refine⟨b1, ?_, ?_,fun i hi hib=> ?_,fun s' hs' hne hsb=> ?_⟩
   ·rcases b3 with h|h
    ·exact .inl (Nat.le_trans hsz h)
    ·obtain⟨q,_,q2,q3⟩:=hmine b h
     exact(F.ownB q b q2 q3).2.1
   ·rintro(h|h)
    ·rcases b3 with h'|h'
     ·have:=F.okB b h;omega
     ·obtain⟨q,_,q2,q3⟩:=hmine b h'
      exact(F.ownB q b q2 q3).2.2 h
    ·exact b2 h
   ·obtain⟨e1,e2⟩:=hSown i hi
    rw[hlow i (hbase i e2) fun hu=>e1 (hUL i hu e2)]at hib
    rcases b3 with h|h
    ·have:=(F.ownB i b e2 hib).1;omega
    ·obtain⟨q,q1,q2,q3⟩:=hmine b h
     exact e1 (F.inj i q b e2 q2 hib q3▸q1)
   ·obtain⟨k',hk',e⟩:=List.getElem_of_mem hs'
    have hks2:(R++(U++upN st.length m))[k']? =some s':=by rw[List.getElem?_eq_getElem hk',e]
    rw[hloc k' s' hks2]at hsb
    obtain⟨g2,hg2⟩: ∃g,gs'[k']? =some g:=by
     have:k'<gs'.length:=by rw[List.length_append,List.length_append,upN_length]at hk';omega
     exact⟨gs'[k'],List.getElem?_eq_getElem this⟩
    obtain⟨v2,f1,f2⟩:=hhget k' g2 hg2
    have hat2:ownAt gs' k'=g2:=by unfold ownAt;rw[List.getD_eq_getElem?_getD,hg2];rfl
    have hgo2:(ownAt gs' k').isOwner=true:=by rw[hat2,←renA_owner f2];exact List.all_eq_true.1 hho v2 (List.mem_of_getElem? f1)
    have:=hO.inj k k' b (by rw[hat];exact hgo') hgo2 hb hsb
    subst this
    rw[hks]at hks2
    exact hne (Option.some.inj hks2).symm
theorem SVRel.frA {K:Nat→Prop} {x:SV} {v:Value} (h:SVRel w μ (fun _=>K) x v):SVRel w μ (fun _=>K) x.frA v:=by
 cases x<;>exact h
theorem AVRel.frA {K:Nat→Prop} {x:AV} {v:Value} (h:AVRel w μ (fun _=>K) x v):AVRel w μ (fun _=>K) x.frA v:=by
 cases x with
 |one x=>
  by_cases hj:x= .junk
  ·subst hj;exact h
  ·rw[AVRel.eq1 hj]at h
   have hj':x.frA≠ .junk:=by cases x<;>first|exact absurd rfl hj|(intro e;cases e)
   show AVRel w μ _ (.one x.frA) v
   rw[AVRel.eq1 hj'];exact h.frA
 |agg cs=>obtain⟨vs,e,hh⟩:=h;exact⟨vs,e,hh.map_left _ fun _ _ h=>h.frA⟩
 |tup l=>
  obtain⟨vs,e,hh⟩:=h
  refine⟨vs,e,hh.map_left _ fun p v hpv=> ?_⟩
  obtain⟨f,cs⟩:=p
  cases f with
  |true=>obtain⟨us,e,hu⟩:=hpv;exact⟨us,e,hu.map_left _ fun _ _ h=>h.frA⟩
  |false=>obtain⟨y,e,hy⟩:=hpv;subst e;exact⟨y.frA,rfl,hy.frA⟩
 |own cs=>exact h.elim
 |arr f t xs=>exact h.elim
 |mapO f kt vt es=>exact h.elim
 |gho o=>exact h.elim
theorem OwnRel.frA {K:Nat→Prop} {i:Nat} {x:AV} (h:OwnRel w μ (fun _=>K) i x):OwnRel w μ (fun _=>K) i x.frA:=by
 cases x with
 |own cs=>obtain⟨b,c,E,h1,h2,h3⟩:=h;exact⟨b,c,E,h1,h2,h3.map_left _ fun _ _ h=>h.frA⟩
 |_=>exact h
theorem AV.frA_owner (x:AV):x.frA.isOwner=x.isOwner:=by cases x<;>rfl
theorem OwnRel.fresh {i:Nat} {x:AV} (hf:x.fresh=true) (h:OwnRel w μ ok i x):OwnRel w μ (fun _=>ok true) i x:=by
 cases x with
 |own cs=>obtain⟨b,c,E,h1,h2,h3⟩:=h;exact⟨b,c,E,h1,h2,h3.imp_mem fun y v hy hyv=>hyv.fresh (List.all_eq_true.1 hf y hy)⟩
 |arr fr t xs=>
  obtain rfl:fr=true:=hf
  exact h
 |mapO fr kt vt es=>
  obtain rfl:fr=true:=hf
  exact h
 |_=>trivial
theorem ownAt_frA (gs:List AV) (k:Nat):ownAt (gs.map AV.frA) k=(ownAt gs k).frA:=by
 unfold ownAt
 simp only[List.getD_eq_getElem?_getD,List.getElem?_map]
 cases gs[k]? <;>rfl
theorem mdCall0_gen {pin:Bool} {E:FuncId→Array Value→World→(Ending→World→Prop)→Prop} (hmono: ∀ {f vs w} {R R':Ending→World→Prop},E f vs w R→(∀e w',R e w'→R' e w')→E f vs w R')
 (hE: ∀f xs p gs r gs',Γ.io f xs p gs=some (true,r,gs')→Callable P f∧GoodE (E f) xs p gs r gs') (hΓl: ∀x,Γ.lo=some x→mine.n≤x∧mine.m≤x) (F:Facts mine w0 st a.tmps w μ ok) {o:Oper} {f:Operand} {args:Array Operand} {ts:Array TypeId} (ho:o.op= .call { callee:= .value f,args,argTypes:=ts}) {st':St}
 (h:mdCall0 pin Γ st o.dst (rd st f) (args.toList.map (rd st))=some (true,st')):
 ∃g vs,(execOp a.eval o).run P w= .ok (.enter g vs) w∧E g vs w fun e w1=> ∃v,e= .returned v∧ ∀next:Act→World→Prop,(∀tm' w1 μ' ok1,Facts mine w0 st' tm' w1 μ' ok1→next { a with tmps:=tm'} w1)→next (a.put o.dst v) w1:=by
 unfold mdCall0 at h
 split at h
 ·rename_i g caps hf
  cases hhas:Γ.has g with
  |false=>rw[hhas]at h;cases h
  |true=>
   rw[hhas]at h
   simp only[Bool.not_true,cond_false]at h
   obtain⟨xs,hxs⟩: ∃xs,xs=args.toList.map (rd st)++caps.map capVal:=⟨_,rfl⟩
   rw[←hxs]at h
   obtain⟨L,hL⟩: ∃L,L=reachN st 16 (addN [] (xs.flatMap AV.slots)) 0:=⟨_,rfl⟩
   rw[←hL]at h
   obtain⟨R,hR⟩: ∃R,R=(bif pin then addN [] (xs.flatMap AV.slots)else []):=⟨_,rfl⟩
   rw[←hR]at h
   obtain⟨t,hLt⟩: ∃t,L=R++t:=by
    cases pin with
    |true=>
     obtain⟨t,h9⟩:=reachN_pre st 16 (addN [] (xs.flatMap AV.slots)) 0
     exact⟨t,by rw[hL,hR];exact h9⟩
    |false=>exact⟨L,by rw[hR];rfl⟩
   rw[show L.drop R.length=t by rw[hLt,List.drop_left]]at h
   split at h
   ·rename_i ys gs hys hgs
    cases hd:(distN L&&gs.all AV.isOwner)with
    |false=>rw[hd]at h;cases h
    |true=>
     rw[hd]at h
     simp only[cond_true]at h
     simp only[Bool.and_eq_true]at hd
     have hnd:=distN_nodup hd.1
     split at h
     ·rename_i g' r gs' hio
      split at h
      ·rename_i r' hs hr' hhs
       cases hk:(kindsOk st R hs&&hs.all AV.isOwner&& !r'.isOwner)with
       |false=>rw[hk]at h;cases h
       |true=>
        rw[hk]at h
        simp only[cond_true]at h
        simp only[Bool.and_eq_true,Bool.not_eq_true']at hk
        obtain⟨⟨hk1,hk2⟩,hk3⟩:=hk
        have hg':g'=true:=by
         revert h
         cases o.dst<;>(intro h;simp only[Option.some.injEq,Prod.mk.injEq]at h;exact h.1)
        subst hg'
        obtain⟨hcall,hgood⟩:=hE g ys R.length gs r gs' hio
        obtain⟨vs,hfe,hcaps⟩:=rd_one F hf (by simp)
        have hargs:All2 (AVRel w μ ok) xs (args.toList.map a.eval++vs):=by
         rw[hxs];exact(all2_rd F _).append (hcaps.map_left _ fun c v h=>capVal_rel h)
        obtain⟨af,haf⟩: ∃af,af=(xs.all AV.fresh&&(L.map st.ow).all AV.fresh):=⟨_,rfl⟩
        rw[←haf]at hr' hhs
        obtain⟨okA,ok1,hargs1,hown1,hok1,hA0,hA2⟩: ∃(okA:Nat→Prop) (ok1:OK),All2 (AVRel w μ ok1) xs (args.toList.map a.eval++vs)∧(∀s∈L,OwnRel w μ ok1 s (st.ow s))∧(∀fr b,ok1 fr b→okA b)∧
         (∀b,okA b→ok false b)∧(af=true→ ∀b,okA b→ok true b):=by
         cases af with
         |false=>exact⟨ok false,ok,hargs,fun s _=>F.owns s,fun fr b h=>F.ok_any h,fun _ h=>h,fun h=>by cases h⟩
         |true=>
          have haf:=haf.symm
          simp only[Bool.and_eq_true]at haf
          refine⟨ok true,fun _=>ok true,hargs.imp_mem fun y v hy hyv=>hyv.fresh (List.all_eq_true.1 haf.1 y hy),fun s hs=>(F.owns s).fresh (List.all_eq_true.1 haf.2 _ (List.mem_map_of_mem hs)),fun _ _ h=>h,fun b h=>F.okT b h,fun _ b h=>h⟩
        have hRen:Ren μ (fun k=>μ (nthN L k)) ok1 (argOK okA) false (fun s=>posN s L 0):=
         ⟨fun s k h=>by show μ (nthN L k)=μ s;rw[posN_nth h],fun fr b h=>by rw[Bool.and_false];exact⟨rfl,hok1 _ _ h⟩⟩
        have hys':=renAs_rel hRen hargs1 hys
        obtain⟨hglen,hgget⟩:=renAs_get hgs
        simp only[List.length_map]at hglen
        have hown: ∀k,(k<L.length∧ ∃s g,L[k]? =some s∧gs[k]? =some g∧ownAt gs k=g∧renA false (fun s=>posN s L 0) (st.ow s)=some g)∨ownAt gs k= .one .junk:=by
         intro k
         rcases Nat.lt_or_ge k L.length with hlt|hge
         ·left
          obtain⟨y,e1,e2⟩:=hgget k (st.ow L[k]) (by simp [hlt])
          exact⟨hlt,L[k],y,List.getElem?_eq_getElem hlt,e1,by unfold ownAt;rw[List.getD_eq_getElem?_getD,e1];rfl,e2⟩
         ·right
          unfold ownAt;rw[List.getD_eq_getElem?_getD,List.getElem?_eq_none (by omega)];rfl
        have hO:OwnsOk w (fun k=>μ (nthN L k)) (argOK okA) gs:=by
         refine⟨fun k=> ?_,fun k b hko hb=> ?_,fun j k b hj hk hjb hkb=> ?_⟩
         ·rcases hown k with⟨_,s,g,e1,e2,e3,e4⟩|e
          ·rw[e3]
           exact renOwn_rel hRen (by show μ (nthN L k)=μ s;rw[nthN_of e1]) (hown1 s (List.mem_of_getElem? e1)) e4
          ·rw[e];trivial
         ·rcases hown k with⟨_,s,g,e1,e2,e3,e4⟩|e
          ·rw[e3,renA_owner e4]at hko
           simp only[nthN_of e1]at hb
           have:=F.ownB s b hko hb
           exact⟨this.1,fun h=>this.2.2 (hA0 b h.2)⟩
          ·rw[e]at hko;cases hko
         ·rcases hown j with⟨hjl,s,g,e1,e2,e3,e4⟩|e
          ·rcases hown k with⟨hkl,s',g',f1,f2,f3,f4⟩|e
           ·rw[e3,renA_owner e4]at hj
            rw[f3,renA_owner f4]at hk
            simp only[nthN_of e1]at hjb
            simp only[nthN_of f1]at hkb
            have hss:=F.inj s s' b hj hk hjb hkb
            subst hss
            exact nodup_inj hnd e1 f1
           ·rw[e]at hk;cases hk
          ·rw[e]at hj;cases hj
        have hgm: ∀g l,glGet g=some l→ ¬ioMine gs (fun k=>μ (nthN L k)) g:=by
         rintro g' l hg ⟨k,hk1,hk2⟩
         rcases hown k with⟨_,s,y,e1,e2,e3,e4⟩|e
         ·rw[e3,renA_owner e4]at hk1
          simp only[nthN_of e1]at hk2
          rcases(F.ownB s g' hk1 hk2).2.1 with h9|h9
          ·have:=(F.okS.glob g' l hg).1;omega
          ·exact F.okS.gm g' l hg h9
         ·rw[e]at hk1;cases hk1
        have hcalls:=hgood w okA _ (fun k=>μ (nthN L k)) ⟨⟨fun b hb=>F.okB b (hA0 b hb),F.glob⟩,hgm⟩ hys' hO
        have hrun:(execOp a.eval o).run P w= .ok (.enter g (args.toList.map a.eval++vs).toArray) w:=by
         unfold execOp
         simp only[ho,resolve,hfe,Deferred.ofValue,Sem.run_bind,Sem.run_pure,Result.andThen_ok,invoke]
         have:(#[]++Array.map a.eval args++vs.toArray)=(args.toList.map a.eval++vs).toArray:=by apply Array.ext';simp
         rw[this]
         exact hcall _ _
        refine⟨g,_,hrun,hmono hcalls fun e w1 hh=> ?_⟩
        obtain⟨v,rfl,hfr,ok',μ',g1,g2,g3,g4,g5,g6⟩:=hh
        refine⟨v,rfl,fun next hn=> ?_⟩
        obtain⟨ok'',k1,k2,k3,k4⟩: ∃ok'':OK,(∀fr b,ok'' fr b→(w.heap.size≤b∧b<w1.heap.size)∨ok fr b)∧(∀b,ok'' true b→ok'' false b)∧AVRel w1 μ' ok'' (r.frIf af) v∧OwnsOk w1 μ' ok'' (frIfs af gs'):=by
         cases af with
         |false=>
          refine⟨ok',fun fr b h=> ?_,g2,g3,g4⟩
          rcases g1 fr b h with q|⟨q1,q2⟩
          ·exact .inl q
          ·exact .inr (q1▸hA0 b q2)
         |true=>
          have up: ∀fr b,ok' fr b→ok' false b:=fun fr b h=>by
           cases fr
           ·exact h
           ·exact g2 b h
          refine⟨fun _ b=>ok' false b,fun fr b h=> ?_,fun b h=>h,(g3.mono (fun _ _ _=>rfl) up (fun _ _=>rfl)).frA,⟨fun k=> ?_,fun k b hk hb=> ?_,fun j k b hj hk=> ?_⟩⟩
          ·rcases g1 false b h with q|⟨_,q⟩
           ·exact .inl q
           ·have q2:=hA2 rfl b q
            cases fr
            ·exact .inr (F.okT b q2)
            ·exact .inr q2
          ·show OwnRel _ _ _ _ (ownAt (gs'.map AV.frA) k)
           rw[ownAt_frA]
           exact OwnRel.frA ((g4.own k).mono (fun _ _ _=>rfl) up (fun _ _=>rfl) (fun _=>rfl) (fun _ _ _=>rfl))
          ·have hk:(ownAt (gs'.map AV.frA) k).isOwner=true:=hk
           rw[ownAt_frA,AV.frA_owner]at hk
           exact g4.blk k b hk hb
          ·have hj:(ownAt (gs'.map AV.frA) j).isOwner=true:=hj
           have hk:(ownAt (gs'.map AV.frA) k).isOwner=true:=hk
           rw[ownAt_frA,AV.frA_owner]at hj hk
           exact g4.inj j k b hj hk
        have g5': ∀k b,(ownAt (frIfs af gs') k).isOwner=true→(μ' k).b=some b→w.heap.size≤b∨ioMine gs (fun k=>μ (nthN L k)) b:=by
         intro k b hk hb
         refine g5 k b ?_ hb
         cases af with
         |false=>exact hk
         |true=>
          have hk:(ownAt (gs'.map AV.frA) k).isOwner=true:=hk
          rw[ownAt_frA,AV.frA_owner]at hk
          exact hk
        have hlen:(frIfs af gs').length=gs'.length:=by cases af<;>simp [frIfs]
        rw[←hlen]at hr' hhs h
        obtain⟨u1,u2,u3⟩:=reuse_spec (lo:=Γ.lo) (t:=t++frees Γ.free st) (m:=(frIfs af gs').length-R.length)
        obtain⟨fr1,fr2⟩:=frees_spec Γ.free st
        obtain⟨μ2,ok1,F2,hrv⟩:=io_back F hLt hnd hgs hd.2 hfr k1 k2 k3 k4 g5' g6 hr' hhs hk1 hk2 u1 (fun s hs=>by
         obtain⟨v1,x,v2,v3⟩:=u2 s hs
         have:=hΓl x v2
         exact⟨(List.mem_append.1 v1).imp id (fr1 s),by omega,by omega⟩) (u3 (by
          refine List.nodup_append.2 ⟨by rw[hLt]at hnd;exact(List.nodup_append.1 hnd).2.1,fr2,fun x hx y hy e=> ?_⟩
          subst e
          have hxL:x∈L:=by rw[hLt];exact List.mem_append_right R hx
          obtain⟨k9,hk9,e9⟩:=List.getElem_of_mem hxL
          obtain⟨_,e8⟩:=renAs_get hgs
          obtain⟨g9,f1,f2⟩:=e8 k9 (st.ow x) (by rw[List.getElem?_map,List.getElem?_eq_getElem hk9,e9];rfl)
          have f3:g9.isOwner=true:=List.all_eq_true.1 hd.2 g9 (List.mem_of_getElem? f1)
          rw[renA_owner f2,(fr1 x hy).1]at f3;cases f3))
        cases hdst:o.dst with
        |some d=>
         rw[hdst]at h
         simp only[Option.some.injEq,Prod.mk.injEq,true_and]at h
         subst h
         exact hn _ _ _ _ (F2.putV d hrv hk3)
        |none=>
         rw[hdst]at h
         simp only[Option.some.injEq,Prod.mk.injEq,true_and]at h
         subst h
         exact hn _ _ _ _ F2
      ·cases h
     ·cases h
   ·cases h
 ·cases h
theorem mdCall0_sound {pin:Bool} (hΓ:OrcFit P Γ mine) (F:Facts mine w0 st a.tmps w μ ok) {o:Oper} {f:Operand} {args:Array Operand} {ts:Array TypeId} (ho:o.op= .call { callee:= .value f,args,argTypes:=ts}) {st':St}
 (h:mdCall0 pin Γ st o.dst (rd st f) (args.toList.map (rd st))=some (true,st')) {next:Act→World→Prop} {Q:Exit→Act→World→Prop}
 (hn: ∀tm' w1 μ' ok1,Facts mine w0 st' tm' w1 μ' ok1→next { a with tmps:=tm'} w1):o.wp P a w next Q:=by
 obtain⟨g,vs,hrun,hc⟩:=mdCall0_gen (E:=Calls P) (fun h hr=>h.mono hr) hΓ.1.2 hΓ.2 F ho h
 unfold Oper.wp
 rw[hrun,Oper.upon_enter]
 refine hc.mono fun e w1 hh=> ?_
 obtain⟨v,rfl,hh⟩:=hh
 exact hh next hn
theorem mdCall_sound (hΓ:OrcFit P Γ mine) (F:Facts mine w0 st a.tmps w μ ok) {o:Oper} {f:Operand} {args:Array Operand} {ts:Array TypeId} (ho:o.op= .call { callee:= .value f,args,argTypes:=ts}) {st':St}
 (h:mdCall Γ st o.dst (rd st f) (args.toList.map (rd st))=some (true,st')) {next:Act→World→Prop} {Q:Exit→Act→World→Prop}
 (hn: ∀tm' w1 μ' ok1,Facts mine w0 st' tm' w1 μ' ok1→next { a with tmps:=tm'} w1):o.wp P a w next Q:=by
 unfold mdCall at h
 split at h
 ·rename_i x hx
  cases h
  exact mdCall0_sound hΓ F ho hx hn
 ·exact mdCall0_sound hΓ F ho h hn
end
section
variable {P:Program} {mine:Cx} {w0:World} {st:St} {a:Act} {w:World} {μ:Locs} {ok:OK} {tb:Tab} {Γ:Orc}
theorem md_sound (hP:TabOk P tb) (F:Facts mine w0 st a.tmps w μ ok) {o:Oper} {st':St} (h:md tb st o.dst o.op=some (true,st')) {next:Act→World→Prop} {Q:Exit→Act→World→Prop}
 (hn: ∀tm' w1 μ' ok1,Facts mine w0 st' tm' w1 μ' ok1→next { a with tmps:=tm'} w1):o.wp P a w next Q:=by
 unfold md at h
 split at h
 ·rename_i T p v ho
  split at h
  ·rename_i hd
   obtain⟨w1,e1,F1⟩:=store_sound hP F (rd_rel F p) (rd_rel F v) h
   unfold Oper.wp
   have:(execOp a.eval o).run P w= .ok .skip w1:=by simp [execOp,ho,e1]
   rw[this,Oper.upon_skip]
   have hput:a.put o.dst undef= { a with tmps:=a.tmps}:=by rw[hd];rfl
   rw[hput]
   exact hn _ _ _ _ F1
  ·cases h
 ·rename_i T m k x ho
  split at h
  ·rename_i hd
   obtain⟨w1,e1,F1⟩:=map_sound hP F (rd_rel F m) (rd_rel F k) (rd_rel F x) h
   unfold Oper.wp
   have:(execOp a.eval o).run P w= .ok .skip w1:=by simp [execOp,ho,e1]
   rw[this,Oper.upon_skip]
   have hput:a.put o.dst undef= { a with tmps:=a.tmps}:=by rw[hd];rfl
   rw[hput]
   exact hn _ _ _ _ F1
  ·cases h
 ·rename_i T m k x ho
  split at h
  ·rename_i hd
   obtain⟨w1,e1,F1⟩:=map_sound hP F (rd_rel F m) (rd_rel F k) (rd_rel F x) h
   unfold Oper.wp
   have:(execOp a.eval o).run P w= .ok .skip w1:=by simp [execOp,ho,e1]
   rw[this,Oper.upon_skip]
   have hput:a.put o.dst undef= { a with tmps:=a.tmps}:=by rw[hd];rfl
   rw[hput]
   exact hn _ _ _ _ F1
  ·cases h
 ·rename_i args ts ho
  split at h
  ·rename_i s x T T' d ha ht hd
   obtain⟨x',w1,μ',e1,F1⟩:=append_sound hP F (ty:=o.type) (rd_rel F s) (rd_rel F x) h
   have ha':args= #[s,x]:=by apply Array.ext';simpa using ha
   have ht':ts= #[T,T']:=by apply Array.ext';simpa using ht
   unfold Oper.wp
   have:(execOp a.eval o).run P w= .ok (.value x') w1:=by
    simp only[execOp,ho,resolve,ha',ht',Sem.run_bind,Sem.run_pure,Result.andThen_ok,invoke,builtin,List.map_toArray,List.map_cons,List.map_nil,e1]
   rw[this,Oper.upon_value]
   have hput:a.put o.dst x'= { a with tmps:=a.tmps.setIfInBounds d x'}:=by rw[hd];rfl
   rw[hput]
   exact hn _ _ _ _ F1
  ·cases h
 ·rename_i args ts ho
  split at h
  ·rename_i s x T T' d ha ht hd
   obtain⟨x',w1,μ',e1,F1⟩:=copy_sound hP F (ty:=o.type) (T2:=T') (rd_rel F s) (rd_rel F x) h
   have ha':args= #[s,x]:=by apply Array.ext';simpa using ha
   have ht':ts= #[T,T']:=by apply Array.ext';simpa using ht
   unfold Oper.wp
   have:(execOp a.eval o).run P w= .ok (.value x') w1:=by
    simp only[execOp,ho,resolve,ha',ht',Sem.run_bind,Sem.run_pure,Result.andThen_ok,invoke,builtin,List.map_toArray,List.map_cons,List.map_nil,e1]
   rw[this,Oper.upon_value]
   have hput:a.put o.dst x'= { a with tmps:=a.tmps.setIfInBounds d x'}:=by rw[hd];rfl
   rw[hput]
   exact hn _ _ _ _ F1
  ·cases h
 ·cases h
theorem mdAll_sound (hP:TabOk P tb) (hΓ:OrcFit P Γ mine) (F:Facts mine w0 st a.tmps w μ ok) {o:Oper} {st':St} (h:mdAll tb Γ st o.dst o.op=some (true,st')) {next:Act→World→Prop} {Q:Exit→Act→World→Prop}
 (hn: ∀tm' w1 μ' ok1,Facts mine w0 st' tm' w1 μ' ok1→next { a with tmps:=tm'} w1):o.wp P a w next Q:=by
 unfold mdAll at h
 split at h
 ·rename_i x hx
  exact md_sound hP F (hx.trans h) hn
 ·split at h
  ·rename_i f args ts ho
   exact mdCall_sound hΓ F ho h hn
  ·cases h
variable {ρ:Type} [Same ρ] {out:ρ}
def Goes (mine:Cx) (w0:World) (df:List Deferred) (K:St→Option ρ) (out:ρ) (next:Act→World→Prop):Prop:=
 ∀st' tm' w' μ' ok',Facts mine w0 st' tm' w' μ' ok'→K st'=some out→next ⟨tm',df⟩ w'
omit [Same ρ]in
theorem stepOp_sound (hP:TabOk P tb) (hΓ:OrcFit P Γ mine) (F:Facts mine w0 st a.tmps w μ ok) {o:Oper} {K:St→Option ρ} (h:stepOp tb Γ st o K=some out) {next:Act→World→Prop} {Q:Exit→Act→World→Prop}
 (hn:Goes mine w0 a.defers K out next):o.wp P a w next Q:=by
 unfold stepOp at h
 split at h
 ·rename_i g st' hm
  cases g with
  |false=>simp only[cond_false]at h;cases h
  |true=>
   simp only[cond_true]at h
   exact mdAll_sound hP hΓ F hm fun tm' w1 μ' ok1 F1=>hn _ _ _ _ _ F1 h
 ·split at h
  ·rename_i g v d he hd
   cases g with
   |false=>simp only[cond_false]at h;cases h
   |true=>
    simp only[cond_true]at h
    refine ev_sound hP hΓ F he fun w1 ok1 x F1 hx _=> ?_
    obtain⟨μ',F2⟩:=F1.putNew d hx
    have hput:a.put o.dst x=⟨a.tmps.setIfInBounds d x,a.defers⟩:=by rw[hd];rfl
    rw[hput]
    exact hn _ _ _ _ _ F2 h
  ·rename_i g v he hd
   cases g with
   |false=>simp only[cond_false]at h;cases h
   |true=>
    simp only[cond_true]at h
    refine ev_sound hP hΓ F he fun w1 ok1 x F1 hx _=> ?_
    have hput:a.put o.dst x=⟨a.tmps,a.defers⟩:=by rw[hd];rfl
    rw[hput]
    exact hn _ _ _ _ _ F1 h
  ·cases h
theorem getD_bool {tm:Array Value} {s:Nat} {b:Bool} (h:tm.getD s undef= .bool b):tm[s]? =some (.bool b):=by
 rw[Array.getD_eq_getD_getElem?]at h
 cases hs:tm[s]? with
 |none=>rw[hs]at h;simp [undef]at h
 |some v=>rw[hs]at h;simp at h;rw[h]
omit [Same ρ]in
theorem skip_sound (F:Facts mine w0 st a.tmps w μ ok) {o:Oper} {K:St→Option ρ} (h:skipOp st o K=some out) {next:Act→World→Prop} (hn:Goes mine w0 a.defers K out next):next (a.put o.dst undef) w:=by
 unfold skipOp at h
 split at h
 ·rename_i d hd
  have hput:a.put o.dst undef=⟨a.tmps.setIfInBounds d undef,a.defers⟩:=by rw[hd];rfl
  rw[hput]
  exact hn _ _ _ _ _ (F.putV d (v:= .tup []) ⟨[],rfl,.nil⟩ rfl) h
 ·rename_i hd
  have hput:a.put o.dst undef=⟨a.tmps,a.defers⟩:=by rw[hd];rfl
  rw[hput]
  exact hn _ _ _ _ _ F h
omit [Same ρ]in
theorem stepG_sound (hP:TabOk P tb) (hΓ:OrcFit P Γ mine) (F:Facts mine w0 st a.tmps w μ ok) {ops:Array Oper} {i:Nat} {o:Oper} (hi:ops[i]? =some o) {K:St→Option ρ} (h:stepG tb Γ ops.toList st o K=some out)
 {next:Act→World→Prop} {Q:Exit→Act→World→Prop} (hn:Goes mine w0 a.defers K out next):wpOp P ops Q i next a w:=by
 unfold wpOp
 simp only[hi]
 unfold stepG at h
 split at h
 ·rename_i hg
  have hw:Region.wanted o (yielded ops a.tmps)=true:=by simp [Region.wanted,hg]
  rw[if_pos hw]
  exact .inl (stepOp_sound hP hΓ F h hn)
 ·rename_i j want hg
  split at h
  ·rename_i s hs
   have hsl:(ops[j]?).bind (·.dst)=some s:=by
    unfold guardSlot at hs
    simp only[Array.getElem?_toList]at hs
    cases hj:ops[j]? with
    |none=>rw[hj]at hs;cases hs
    |some oj=>rw[hj]at hs;exact hs
   have hwant: ∀b,a.tmps.getD s undef= .bool b→Region.wanted o (yielded ops a.tmps)=(b==want):=by
    intro b hb
    simp only[Region.wanted,hg,yielded,hsl,Option.bind_some,getD_bool hb]
    cases b<;>cases want<;>rfl
   have hslot:=F.slots s
   split at h
   ·rename_i b hb
    rw[hb]at hslot
    have hval:a.tmps.getD s undef= .bool b:=hslot
    have Ft: ∀c,b=c→Facts mine w0 (List.set st s (.one (.bool c))) a.tmps w μ ok:=by
     intro c hc
     refine F.setV s (by rw[hb];rfl) (by rw[hb];rfl) rfl ?_
     show a.tmps.getD s undef=_
     rw[hval,hc]
    cases b with
    |true=>
     simp only[cond_true]at h
     cases want with
     |true=>
      rw[if_pos (by rw[hwant true hval];rfl)]
      exact .inl (stepOp_sound hP hΓ (Ft true rfl) h hn)
     |false=>
      rw[if_neg (by rw[hwant true hval];simp)]
      exact skip_sound (Ft true rfl) h hn
    |false=>
     simp only[cond_false]at h
     cases want with
     |true=>
      rw[if_neg (by rw[hwant false hval];simp)]
      exact skip_sound (Ft false rfl) h hn
     |false=>
      rw[if_pos (by rw[hwant false hval];rfl)]
      exact .inl (stepOp_sound hP hΓ (Ft false rfl) h hn)
   ·rename_i hb
    rw[hb]at hslot
    obtain⟨vs,hval,hvs⟩:=hslot
    cases hvs
    have hnw:Region.wanted o (yielded ops a.tmps)=false:=by
     simp only[Region.wanted,hg,yielded,hsl,Option.bind_some]
     rw[Array.getD_eq_getD_getElem?]at hval
     cases hs':a.tmps[s]? with
     |none=>rfl
     |some v=>
      rw[hs']at hval
      simp at hval
      subst hval;rfl
    rw[if_neg (by rw[hnw];simp)]
    exact skip_sound F h hn
   ·cases h
  ·cases h
theorem range_all2 (ops:Array Oper):All2 (fun i o=>ops[i]? =some o) (List.range ops.size) ops.toList:=by
 have: ∀(l:List Oper) (k:Nat),(∀j,l[j]? =ops[k+j]?)→All2 (fun i o=>ops[i]? =some o) (List.range' k l.length) l:=by
  intro l
  induction l with
  |nil=>intro k _;exact .nil
  |cons o l ih=>
   intro k h
   simp only[List.length_cons,List.range'_succ]
   refine .cons ?_ (ih (k+1) fun j=> ?_)
   ·have:=h 0;simp at this;exact this.symm
   ·have:=h (j+1);simp at this;rw[this];congr 1;omega
 have h:=this ops.toList 0 (fun j=>by simp)
 simpa [List.range_eq_range']using h
end
section
variable {P:Program} {mine:Cx} {w0:World} {st:St} {a:Act} {w:World} {μ:Locs} {ok:OK} {tb:Tab} {Γ:Orc} {tm:Array Value}
def EntOk (st:St) (tm:Array Value) (w:World) (μ:Locs) (ok:OK) (e:Nat×Nat×Bool×AV):Prop:=
 e.2.2.2.isOwner =false∧((st.at e.1).isOwner=false∧(st.at e.1).isGho=false)∧
   ((tm.getD e.2.1 undef= .bool e.2.2.1 ∧AVRel w μ ok e.2.2.2 (tm.getD e.1 undef))∨(tm.getD e.1 undef=undef∧tm.getD e.2.1 undef≠ .bool e.2.2.1)∨tm.size≤e.1)
theorem getD_out {tm:Array Value} {i:Nat} (h:tm.size≤i):tm.getD i undef=undef:=by
 rw[Array.getD_eq_getD_getElem?,Array.getElem?_eq_none h];rfl
def EOk (E:GE) (st:St) (tm:Array Value) (w:World) (μ:Locs) (ok:OK):Prop:= ∀e∈E,EntOk st tm w μ ok e
theorem bool_ne_undef (b:Bool):Value.bool b≠undef:=by unfold undef;intro h;cases h
theorem owner_not_bool (F:Facts mine w0 st tm w μ ok) {s:Nat} {b:Bool} (h:tm.getD s undef= .bool b):(st.at s).isOwner=false:=by
 have:=F.slots s
 cases hs:st.at s with
 |own cs=>rw[hs]at this;obtain⟨_,_,e⟩:=this;rw[h]at e;cases e
 |arr f t xs=>rw[hs]at this;have e:tm.getD s undef=slv (μ s) none:=this;rw[h]at e;cases e
 |mapO f k v es=>rw[hs]at this;obtain⟨_,_,e⟩:=this;rw[h]at e;cases e
 |gho o=>rfl
 |one x=>rfl
 |agg cs=>rfl
 |tup l=>rfl
theorem bool_not_gho (F:Facts mine w0 st tm w μ ok) {s:Nat} {b:Bool} (h:tm.getD s undef= .bool b):(st.at s).isGho=false:=by
 have:s<tm.size:=by
  rcases Nat.lt_or_ge s tm.size with h'|h'
  ·exact h'
  ·rw[getD_out h']at h;exact absurd h.symm (bool_ne_undef b)
 exact F.real s (by rw[←F.size];exact this)
theorem set_owner {cur:St} {d i:Nat} {v:AV} (ho:v.isOwner=false) (h:(St.at (List.set cur d v) i).isOwner=true):(cur.at i).isOwner=true:=by
 by_cases e:i=d
 ·subst e
  by_cases hl:i<cur.length
  ·rw[St.at_set_self cur i v hl,ho]at h;cases h
  ·rw[St.at_out _ _ (by simp;omega)]at h;cases h
 ·rwa [St.at_set_ne cur v (Ne.symm e)]at h
theorem set_gho {cur:St} {d i:Nat} {v:AV} (ho:v.isGho=false) (h:(St.at (List.set cur d v) i).isGho=true):(cur.at i).isGho=true:=by
 by_cases e:i=d
 ·subst e
  by_cases hl:i<cur.length
  ·rw[St.at_set_self cur i v hl,ho]at h;cases h
  ·rw[St.at_out _ _ (by simp;omega)]at h;cases h
 ·rwa [St.at_set_ne cur v (Ne.symm e)]at h
theorem geOf_mem: ∀ {E:GE} {i s:Nat} {w:Bool},geOf E i=some (s,w)→ ∃v,(i,s,w,v)∈E:=by
 intro E
 induction E with
 |nil=>intro i s w h;cases h
 |cons e E ih=>
  obtain⟨t,s',w',v⟩:=e
  intro i s w h
  simp only[geOf]at h
  cases hb:Nat.beq t i with
  |true=>
   rw[hb]at h
   simp only[cond_true,Option.some.injEq,Prod.mk.injEq]at h
   obtain⟨rfl,rfl⟩:=h
   obtain rfl:=Nat.eq_of_beq_eq_true hb
   exact⟨v,by simp⟩
  |false=>
   rw[hb]at h
   obtain⟨u,hu⟩:=ih h
   exact⟨u,by simp [hu]⟩
theorem geB_mem: ∀ {E:GE} {i:Nat},geB E i=true→ ∃s w b,(i,s,w,AV.one (.bool b))∈E:=by
 intro E
 induction E with
 |nil=>intro i h;cases h
 |cons e E ih=>
  obtain⟨t,s',w',v⟩:=e
  intro i h
  simp only[geB]at h
  cases hb:Nat.beq t i with
  |true=>
   rw[hb]at h
   simp only[cond_true]at h
   obtain rfl:=Nat.eq_of_beq_eq_true hb
   split at h
   ·rename_i b
    exact⟨s',w',b,by simp⟩
   ·cases h
  |false=>
   rw[hb]at h
   obtain⟨s,w,b,hu⟩:=ih h
   exact⟨s,w,b,by simp [hu]⟩
theorem geE_mem: ∀ {E:GE} {i s:Nat} {w:Bool} {v:AV},geE E i=some (s,w,v)→(i,s,w,v)∈E:=by
 intro E
 induction E with
 |nil=>intro i s w v h;cases h
 |cons e E ih=>
  obtain⟨t,s',w',v'⟩:=e
  intro i s w v h
  simp only[geE]at h
  cases hb:Nat.beq t i with
  |true=>
   rw[hb]at h
   simp only[cond_true,Option.some.injEq,Prod.mk.injEq]at h
   obtain⟨rfl,rfl,rfl⟩:=h
   obtain rfl:=Nat.eq_of_beq_eq_true hb
   exact List.mem_cons_self
  |false=>
   rw[hb]at h
   exact List.mem_cons_of_mem _ (ih h)
theorem boolBeq_self (b:Bool):boolBeq b b=true:=by cases b<;>rfl
theorem chainB_ok {E:GE} (hE:EOk E st tm w μ ok) (F:Facts mine w0 st tm w μ ok): ∀(k s:Nat) (wv:Bool),tm.getD s undef= .bool wv→chainB E st k s wv=true:=by
 intro k
 induction k with
 |zero=>intro s wv _;rfl
 |succ k ih=>
  intro s wv hs
  simp only[chainB]
  split
  ·rename_i s0 w0' c hg
   obtain⟨_,_,e3⟩:=hE _ (geE_mem hg)
   rcases e3 with e3|e3|e3
   ·have h1:tm.getD s undef= .bool c:=e3.2
    rw[hs]at h1
    cases h1
    rw[boolBeq_self,ih s0 w0' e3.1];rfl
   ·have:=e3.1
    simp only at this
    rw[hs]at this
    exact absurd this (bool_ne_undef wv)
   ·have:=getD_out e3
    simp only at this
    rw[hs]at this
    exact absurd this (bool_ne_undef wv)
  ·rfl
  ·split
   ·rename_i b hb
    have hslot:=F.slots s
    rw[hb]at hslot
    have h1:tm.getD s undef= .bool b:=hslot
    rw[hs]at h1
    cases h1
    exact boolBeq_self _
   ·rfl
theorem overOne_ok {s:Nat} {wv:Bool} (hs:tm.getD s undef= .bool wv): ∀ {E:GE} {cur:St},EOk E st tm w μ ok→Facts mine w0 cur tm w μ ok→(∀i,((cur.at i).isOwner=true→(st.at i).isOwner=true)∧((cur.at i).isGho=true→(st.at i).isGho=true))→
 Facts mine w0 (overOne s wv E cur) tm w μ ok∧ ∀i,(((overOne s wv E cur).at i).isOwner=true→(st.at i).isOwner=true)∧(((overOne s wv E cur).at i).isGho=true→(st.at i).isGho=true):=by
 intro E
 induction E with
 |nil=>intro cur _ F h;exact⟨F,h⟩
 |cons e E ih=>
  obtain⟨t,s',w',v⟩:=e
  intro cur hE F h
  have hE':EOk E st tm w μ ok:=fun e he=>hE e (by simp [he])
  obtain⟨e1,e2,e3⟩:=hE (t,s',w',v) (by simp)
  simp only[overOne]
  cases hb:(Nat.beq s' s&&boolBeq w' wv)with
  |false=>exact ih hE' F h
  |true=>
   simp only[Bool.and_eq_true]at hb
   obtain rfl:=Nat.eq_of_beq_eq_true hb.1
   obtain rfl:w'=wv:=by cases w'<;>cases wv<;>first|rfl|cases hb.2
   simp only[cond_true]
   rcases e3 with e3|e3|e3
   case inr.inl=>exact absurd hs e3.2
   case inr.inr=>
    have hc:(cur.at t).isGho=false:=by
     cases hc:(cur.at t).isGho with
     |false=>rfl
     |true=>have:=(h t).2 hc;simp only at e2;rw[e2.2]at this;cases this
    have:List.set cur t v=cur:=by
     refine List.set_eq_of_length_le ?_
     rcases Nat.lt_or_ge t cur.length with hl|hl
     ·have:=F.slot hc hl
      simp only at e3;omega
     ·exact hl
    rw[this]
    exact ih hE' F h
   have hv:AVRel w μ ok v (tm.getD t undef):=e3.2
   have hold:(cur.at t).isOwner=false:=by
    cases hc:(cur.at t).isOwner with
    |false=>rfl
    |true=>have:=(h t).1 hc;simp only at e2;rw[e2.1]at this;cases this
   have hg:(cur.at t).isGho=false:=by
    cases hc:(cur.at t).isGho with
    |false=>rfl
    |true=>have:=(h t).2 hc;simp only at e2;rw[e2.2]at this;cases this
   exact ih hE' (F.setV t hg hold e1 hv) fun i=>⟨fun hi=>(h i).1 (set_owner e1 hi),fun hi=>(h i).2 (set_gho hv.noGho hi)⟩
theorem overE_ok {E:GE} (hE:EOk E st tm w μ ok) (F:Facts mine w0 st tm w μ ok): ∀(k s:Nat) (wv:Bool),tm.getD s undef= .bool wv→
 Facts mine w0 (overE E k s wv st) tm w μ ok∧ ∀i,(((overE E k s wv st).at i).isOwner=true→(st.at i).isOwner=true)∧(((overE E k s wv st).at i).isGho=true→(st.at i).isGho=true):=by
 intro k
 induction k with
 |zero=>intro s wv _;exact⟨F,fun _=>⟨id,id⟩⟩
 |succ k ih=>
  intro s wv hs
  simp only[overE]
  have base: ∀cur,cur=(match geOf E s with
   |some (s0,w0)=>overE E k s0 w0 st
   |none=>st)→Facts mine w0 cur tm w μ ok∧ ∀i,((cur.at i).isOwner=true→(st.at i).isOwner=true)∧((cur.at i).isGho=true→(st.at i).isGho=true):=by
   intro cur hc
   split at hc
   ·rename_i s0 w0' hg
    subst hc
    obtain⟨v,hv⟩:=geOf_mem hg
    obtain⟨_,_,e3⟩:=hE _ hv
    rcases e3 with e3|e3|e3
    ·exact ih s0 w0' e3.1
    ·have:=e3.1
     simp only at this
     rw[hs]at this
     exact absurd this (bool_ne_undef wv)
    ·have:=getD_out e3
     simp only at this
     rw[hs]at this
     exact absurd this (bool_ne_undef wv)
   ·subst hc;exact⟨F,fun _=>⟨id,id⟩⟩
  obtain⟨F1,h1⟩:=base _ rfl
  obtain⟨F2,h2⟩:=overOne_ok hs hE F1 h1
  exact⟨F2.setV s (bool_not_gho F2 hs) (owner_not_bool F2 hs) rfl hs,fun i=>⟨fun hi=>(h2 i).1 (set_owner rfl hi),fun hi=>(h2 i).2 (set_gho rfl hi)⟩⟩
theorem evG_sound (hP:TabOk P tb) (hΓ:OrcFit P Γ mine) {E:GE} (F:Facts mine w0 st a.tmps w μ ok) (hE:EOk E st a.tmps w μ ok) {o:Oper} {v:AV} (h:evG tb Γ E st o.op=some (true,v)) {next:Act→World→Prop} {Q:Exit→Act→World→Prop}
 (hn: ∀w1 ok1 x,Facts mine w0 st a.tmps w1 μ ok1→NewRel mine w0 st w1 μ ok1 v x→Grow w ok w1 ok1 v x→next (a.put o.dst x) w1):o.wp P a w next Q:=by
 unfold evG at h
 split at h
 ·rename_i s x y ho
  split at h
  ·rename_i c p q hc hx hy
   cases h
   have e1:=rd_bool F hc
   refine wp_gives (r:=do pure (if ←asBool (a.eval (.tmp s))then a.eval x else a.eval y)) (fun w=>by simp [execOp,ho]) ?_ hn
   refine Gives.pure F (x:= .bool (cond c p q)) ?_ rfl rfl
   cases c with
   |true=>
    have e2:=rd_bool (overE_ok hE F (E.length+1) s true e1).1 hx
    simp [e1,e2,asBool]
   |false=>
    have e2:=rd_bool (overE_ok hE F (E.length+1) s false e1).1 hy
    simp [e1,e2,asBool]
  ·exact ev_sound hP hΓ F h hn
 ·exact ev_sound hP hΓ F (by first|exact h|(rename_i h' _;exact h)) hn
theorem Facts.grow (F:Facts mine w0 st tm w μ ok) {w1:World} {ok1:OK} {v:AV} {x:Value} (hg:Grow w ok w1 ok1 v x) {st':St} {tm':Array Value} {μ':Locs} (F1:Facts mine w0 st' tm' w1 μ' ok1):Facts mine w0 st tm w1 μ ok1:=
 F.step (fun b hb=>hg.fr.block b (F.okB b hb) id) (fun i b h1 h2=>hg.fr.block b (F.ownB i b h1 h2).1 id) hg.fr.size hg.up F1.okB F1.okT F1.okF
   (fun i b h1 h2 h3=>by
    have:=F.ownB i b h1 h2
    rcases hg.down _ _ h3 with h|h
    ·exact this.2.2 h
    ·omega)
   F1.okS (F.fr.trans hg.fr)
theorem EOk.grow {E:GE} (hE:EOk E st tm w μ ok) (F:Facts mine w0 st tm w μ ok) {w1:World} {ok1:OK} {v:AV} {x:Value} (hg:Grow w ok w1 ok1 v x):EOk E st tm w1 μ ok1:=by
 intro e he
 obtain⟨e1,e2,e3⟩:=hE e he
 refine⟨e1,e2,e3.imp (fun h=>⟨h.1,h.2.mono (fun fr b hb=>hg.fr.block b (F.okB b (F.ok_any hb)) id) hg.up fun _ _=>rfl⟩) id⟩
theorem dropE_mem {d:Nat}: ∀ {E:GE} {e:Nat×Nat×Bool×AV},e∈dropE d E→e∈E∧e.1≠d∧e.2.1 ≠d∧e.2.2.2.refers d=false:=by
 intro E
 induction E with
 |nil=>intro e h;cases h
 |cons f E ih=>
  obtain⟨t,s,w,v⟩:=f
  intro e h
  simp only[dropE]at h
  cases hb:(Nat.beq t d||Nat.beq s d||v.refers d)with
  |true=>
   rw[hb]at h
   obtain⟨h1,h2⟩:=ih h
   exact⟨by simp [h1],h2⟩
  |false=>
   rw[hb]at h
   simp only[Bool.or_eq_false_iff]at hb
   rcases List.mem_cons.1 h with rfl|h
   ·exact⟨by simp,Nat.ne_of_beq_eq_false hb.1.1,Nat.ne_of_beq_eq_false hb.1.2,hb.2⟩
   ·obtain⟨h1,h2⟩:=ih h
    exact⟨by simp [h1],h2⟩
theorem put_owner {d i:Nat} {v:AV} (hi:i≠d):((st.put d v).at i).isOwner=(st.at i).isOwner∧((st.put d v).at i).isGho=(st.at i).isGho:=by
 unfold St.put
 cases (st.at d).isGho with
 |true=>exact⟨rfl,rfl⟩
 |false=>
 simp only[cond_false]
 cases selfB st d v with
 |true=>exact⟨rfl,rfl⟩
 |false=>
 simp only[cond_false]
 cases hc:((st.at d).isOwner||v.isOwner)with
 |false=>show(St.at (List.set st d v) i).isOwner=_∧(St.at (List.set st d v) i).isGho=_;rw[St.at_set_ne st v (Ne.symm hi)];exact⟨rfl,rfl⟩
 |true=>show(St.at (List.set (st.kill d) d (v.kill d)) i).isOwner=_∧(St.at (List.set (st.kill d) d (v.kill d)) i).isGho=_;rw[St.at_set_ne _ _ (Ne.symm hi),St.at_kill,AV.isOwner_kill,AV.isGho_kill];exact⟨rfl,rfl⟩
theorem EOk.put {E:GE} (hE:EOk E st tm w μ ok) {d:Nat} {v:AV} {x:Value}:EOk (dropE d E) (st.put d v) (tm.setIfInBounds d x) w μ ok:=by
 intro e he
 obtain⟨h1,h2,h3,h4⟩:=dropE_mem he
 obtain⟨e1,e2,e3⟩:=hE e h1
 have g1:(tm.setIfInBounds d x).getD e.1 undef=tm.getD e.1 undef:=by rw[getD_set,if_neg (fun h=>h2 h.1.symm)]
 have g2:(tm.setIfInBounds d x).getD e.2.1 undef=tm.getD e.2.1 undef:=by rw[getD_set,if_neg (fun h=>h3 h.1.symm)]
 refine⟨e1,by rw[(put_owner h2).1,(put_owner h2).2];exact e2, ?_⟩
 rw[g1,g2,Array.size_setIfInBounds];exact e3
theorem EOk.nil:EOk [] st tm w μ ok:=fun e he=>by cases he
theorem put_junk_owner {d:Nat} (hg:(st.at d).isGho=false):((st.put d (.one .junk)).at d).isOwner=false∧((st.put d (.one .junk)).at d).isGho=false:=by
 by_cases hl:d<st.length
 ·rw[St.put_eq (selfB_junk st d)]
  rw[hg]
  cases hc:((st.at d).isOwner||(AV.one SV.junk).isOwner)with
  |false=>show(St.at (List.set st d (.one .junk)) d).isOwner=_∧(St.at (List.set st d (.one .junk)) d).isGho=_;rw[St.at_set_self st d _ hl];exact⟨rfl,rfl⟩
  |true=>show(St.at (List.set (st.kill d) d ((AV.one .junk).kill d)) d).isOwner=_∧(St.at (List.set (st.kill d) d ((AV.one .junk).kill d)) d).isGho=_;rw[St.at_set_self _ d _ (by rw[St.length_kill];exact hl),AV.isOwner_kill,AV.isGho_kill];exact⟨rfl,rfl⟩
 ·rw[St.at_out _ _ (by rw[St.length_put];omega)];exact⟨rfl,rfl⟩
variable {ρ:Type} [Same ρ] {out:ρ}
def GoesG (mine:Cx) (w0:World) (df:List Deferred) (K:St→GE→Option ρ) (out:ρ) (next:Act→World→Prop):Prop:=
 ∀st' E' tm' w' μ' ok',Facts mine w0 st' tm' w' μ' ok'→EOk E' st' tm' w' μ' ok'→K st' E'=some out→next ⟨tm',df⟩ w'
omit [Same ρ]in
theorem skipE (F:Facts mine w0 st a.tmps w μ ok) {E:GE} (hE:EOk E st a.tmps w μ ok) {o:Oper} {K:St→GE→Option ρ} (h:skipOp st o (fun st'=>K st' (dropO o.dst E))=some out) {next:Act→World→Prop} (hn:GoesG mine w0 a.defers K out next):next (a.put o.dst undef) w:=by
 unfold skipOp at h
 split at h
 ·rename_i d hd
  have hput:a.put o.dst undef=⟨a.tmps.setIfInBounds d undef,a.defers⟩:=by rw[hd];rfl
  rw[hput]
  rw[hd]at h
  exact hn _ _ _ _ _ _ (F.putV d (v:= .tup []) ⟨[],rfl,.nil⟩ rfl) hE.put h
 ·rename_i hd
  have hput:a.put o.dst undef=⟨a.tmps,a.defers⟩:=by rw[hd];rfl
  rw[hput]
  rw[hd]at h
  exact hn _ _ _ _ _ _ F hE h
omit [Same ρ]in
theorem stepE_sound (hP:TabOk P tb) (hΓ:OrcFit P Γ mine) (F:Facts mine w0 st a.tmps w μ ok) {E:GE} (hE:EOk E st a.tmps w μ ok) {ops:Array Oper} {i:Nat} {o:Oper} (hi:ops[i]? =some o) {K:St→GE→Option ρ} (h:stepE tb Γ ops.toList st E o K=some out)
 {next:Act→World→Prop} {Q:Exit→Act→World→Prop} (hn:GoesG mine w0 a.defers K out next):wpOp P ops Q i next a w:=by
 unfold wpOp
 simp only[hi]
 unfold stepE at h
 split at h
 ·rename_i hg
  have hw:Region.wanted o (yielded ops a.tmps)=true:=by simp [Region.wanted,hg]
  rw[if_pos hw]
  refine .inl ?_
  split at h
  ·rename_i g st' hm
   cases g with
   |false=>simp only[cond_false]at h;cases h
   |true=>
    simp only[cond_true]at h
    exact mdAll_sound hP hΓ F hm fun tm' w1 μ' ok1 F1=>hn _ _ _ _ _ _ F1 EOk.nil h
  ·split at h
   ·rename_i g v d he hd
    cases g with
    |false=>simp only[cond_false]at h;cases h
    |true=>
     simp only[cond_true]at h
     refine evG_sound hP hΓ F hE he fun w1 ok1 x F1 hx hgr=> ?_
     have hput:a.put o.dst x=⟨a.tmps.setIfInBounds d x,a.defers⟩:=by rw[hd];rfl
     rw[hput]
     cases ho:v.isOwner with
     |true=>
      rw[ho]at h
      obtain⟨μ',F2⟩:=F1.putNew d hx
      exact hn _ _ _ _ _ _ F2 EOk.nil h
     |false=>
      rw[ho]at h
      have hxv:AVRel w1 μ ok1 v x:=by cases v<;>first|exact hx|cases ho
      exact hn _ _ _ _ _ _ (F1.putV d hxv ho) (hE.grow F hgr).put h
   ·rename_i g v he hd
    cases g with
    |false=>simp only[cond_false]at h;cases h
    |true=>
     simp only[cond_true]at h
     refine evG_sound hP hΓ F hE he fun w1 ok1 x F1 hx hgr=> ?_
     have hput:a.put o.dst x=⟨a.tmps,a.defers⟩:=by rw[hd];rfl
     rw[hput]
     exact hn _ _ _ _ _ _ F1 (hE.grow F hgr) h
   ·cases h
 ·rename_i j want hg
  split at h
  ·cases h
  ·rename_i s hs
   have hsl:(ops[j]?).bind (·.dst)=some s:=by
    unfold guardSlot at hs
    simp only[Array.getElem?_toList]at hs
    cases hj:ops[j]? with
    |none=>rw[hj]at hs;cases hs
    |some oj=>rw[hj]at hs;exact hs
   have hwant: ∀b,a.tmps.getD s undef= .bool b→Region.wanted o (yielded ops a.tmps)=(b==want):=by
    intro b hb
    simp only[Region.wanted,hg,yielded,hsl,Option.bind_some,getD_bool hb]
    cases b<;>cases want<;>rfl
   have hund:a.tmps.getD s undef=undef→Region.wanted o (yielded ops a.tmps)=false:=by
    intro hval
    simp only[Region.wanted,hg,yielded,hsl,Option.bind_some]
    rw[Array.getD_eq_getD_getElem?]at hval
    cases hs':a.tmps[s]? with
    |none=>rfl
    |some v=>
     rw[hs']at hval
     simp at hval
     subst hval;rfl
   have main: ∀(d:Nat) (g:Bool) (v:AV),o.dst=some d→evGn tb Γ E st s want d o.op=some (g,v)→(a.tmps.getD s undef= .bool want→g=true)→(a.tmps.getD s undef≠ .bool want→Region.wanted o (yielded ops a.tmps)=false)→
    (a.tmps.getD s undef= .bool want→Region.wanted o (yielded ops a.tmps)=true)→K (st.put d (.one .junk)) ((d,s,want,v)::dropE d E)=some out→
    if Region.wanted o (yielded ops a.tmps)=true then o.wp P a w next Q∨(o.asks P a w∧LetsOut Q)else next (a.put o.dst undef) w:=by
    intro d g v hd he hgt hnw hyw hK
    unfold evGn at he
    cases hb:(isMd o.op||Nat.beq d s||(st.at d).isGho)with
    |true=>rw[hb]at he;cases he
    |false=>
     rw[hb]at he
     simp only[Bool.or_eq_false_iff]at hb
     have hds:s≠d:=fun e=>Nat.ne_of_beq_eq_false hb.1.2 e.symm
     have hgd:=hb.2
     simp only[cond_false]at he
     split at he
     ·rename_i g' v' hv
      cases ho:v'.isOwner with
      |true=>rw[ho]at he;cases he
      |false=>
       rw[ho]at he
       cases he
       by_cases hsw:a.tmps.getD s undef= .bool want
       ·rw[if_pos (hyw hsw)]
        obtain rfl:=hgt hsw
        obtain⟨F1,h1⟩:=overE_ok hE F (E.length+1) s want hsw
        have hE1:EOk E (overE E (E.length+1) s want st) a.tmps w μ ok:=fun e he=>by
         obtain⟨p1,p2,p3⟩:=hE e he
         refine⟨p1, ?_,p3⟩
         refine⟨?_, ?_⟩
         ·cases hc:((overE E (E.length+1) s want st).at e.1).isOwner with
          |false=>rfl
          |true=>have:=(h1 _).1 hc;rw[p2.1]at this;cases this
         ·cases hc:((overE E (E.length+1) s want st).at e.1).isGho with
          |false=>rfl
          |true=>have:=(h1 _).2 hc;rw[p2.2]at this;cases this
        refine .inl (evG_sound hP hΓ F1 hE1 hv fun w1 ok1 x F2 hx hgr=> ?_)
        have hput:a.put o.dst x=⟨a.tmps.setIfInBounds d x,a.defers⟩:=by rw[hd];rfl
        rw[hput]
        have hxv:AVRel w1 μ ok1 v x:=by cases v<;>first|exact hx|cases ho
        have F3:=F.grow hgr F2
        refine hn _ _ _ _ _ _ (F3.putV d (v:= .one .junk) trivial rfl) (fun e he=> ?_) hK
        rcases List.mem_cons.1 he with rfl|he
        ·refine⟨ho,put_junk_owner hgd, ?_⟩
         by_cases hdl:d<a.tmps.size
         ·refine .inl ⟨?_, ?_⟩
          ·show(a.tmps.setIfInBounds d x).getD s undef=_
           rw[getD_set,if_neg (fun h=>hds h.1.symm)];exact hsw
          ·show AVRel w1 μ ok1 v ((a.tmps.setIfInBounds d x).getD d undef)
           rw[getD_set,if_pos ⟨rfl,hdl⟩];exact hxv
         ·exact .inr (.inr (by simp;omega))
        ·exact(hE.grow F hgr).put e he
       ·rw[hnw hsw]
        simp only[Bool.false_eq_true,if_false]
        have hput:a.put o.dst undef=⟨a.tmps.setIfInBounds d undef,a.defers⟩:=by rw[hd];rfl
        rw[hput]
        refine hn _ _ _ _ _ _ (F.putV d (v:= .one .junk) trivial rfl) (fun e he=> ?_) hK
        rcases List.mem_cons.1 he with rfl|he
        ·refine⟨ho,put_junk_owner hgd,.inr (.inl ⟨?_, ?_⟩)⟩
         ·show(a.tmps.setIfInBounds d undef).getD d undef=undef
          rw[getD_set];split
          ·rfl
          ·rename_i hdl
           rw[Array.getD_eq_getD_getElem?,Array.getElem?_eq_none (by simp at hdl;omega)];rfl
         ·show(a.tmps.setIfInBounds d undef).getD s undef≠_
          rw[getD_set,if_neg (fun h=>hds h.1.symm)];exact hsw
        ·exact hE.put e he
     ·cases he
   have branch: ∀b,a.tmps.getD s undef= .bool b→stepB tb Γ E st s b want o K=some out→
    if Region.wanted o (yielded ops a.tmps)=true then o.wp P a w next Q∨(o.asks P a w∧LetsOut Q)else next (a.put o.dst undef) w:=by
    intro b hval h
    have hso:=owner_not_bool F hval
    have Fo: ∀c,b=c→Facts mine w0 (overE E (E.length+1) s c st) a.tmps w μ ok:=fun c hc=>(overE_ok hE F _ s c (by rw[hval,hc])).1
    have Ft: ∀c,b=c→Facts mine w0 (List.set st s (.one (.bool c))) a.tmps w μ ok:=fun c hc=>F.setV s (bool_not_gho F hval) hso rfl (by show a.tmps.getD s undef=_;rw[hval,hc])
    have hEt: ∀c,EOk E (List.set st s (.one (.bool c))) a.tmps w μ ok:=fun c e he=>by
     obtain⟨p1,p2,p3⟩:=hE e he
     refine⟨p1, ?_,p3⟩
     refine⟨?_, ?_⟩
     ·cases hc:(St.at (List.set st s (.one (.bool c))) e.1).isOwner with
      |false=>rfl
      |true=>have:=set_owner rfl hc;rw[p2.1]at this;cases this
     ·cases hc:(St.at (List.set st s (.one (.bool c))) e.1).isGho with
      |false=>rfl
      |true=>have:=set_gho rfl hc;rw[p2.2]at this;cases this
    have hn':Goes mine w0 a.defers (fun st'=>K st' []) out next:=fun st' tm' w' μ' ok' F' h'=>hn _ _ _ _ _ _ F' EOk.nil h'
    unfold stepB at h
    cases b with
    |true=>
     simp only[cond_true]at h
     cases want with
     |true=>
      rw[if_pos (by rw[hwant true hval];rfl)]
      exact .inl (stepOp_sound hP hΓ (Fo true rfl) h hn')
     |false=>
      rw[if_neg (by rw[hwant true hval];simp)]
      exact skipE (Ft true rfl) (hEt true) h hn
    |false=>
     simp only[cond_false]at h
     cases want with
     |true=>
      rw[if_neg (by rw[hwant false hval];simp)]
      exact skipE (Ft false rfl) (hEt false) h hn
     |false=>
      rw[if_pos (by rw[hwant false hval];rfl)]
      exact .inl (stepOp_sound hP hΓ (Fo false rfl) h hn')
   have hslot:=F.slots s
   split at h
   ·rename_i hb
    rw[hb]at hslot
    obtain⟨vs,hval,hvs⟩:=hslot
    cases hvs
    rw[if_neg (by rw[hund hval];simp)]
    exact skipE F hE h hn
   ·rename_i b hb
    rw[hb]at hslot
    have hval:a.tmps.getD s undef= .bool b:=hslot
    split at h
    ·rename_i d hd
     split at h
     ·rename_i g v he
      cases hgb:(g|| !boolBeq b want)with
      |false=>rw[hgb]at h;cases h
      |true=>
       rw[hgb]at h
       have hbw: ∀c,a.tmps.getD s undef= .bool c↔b=c:=fun c=>by rw[hval];simp
       refine main d g v hd he (fun hc=> ?_) (fun hc=> ?_) (fun hc=> ?_) h
       ·obtain rfl:=(hbw _).1 hc
        cases g with
        |true=>rfl
        |false=>cases b<;>simp [boolBeq]at hgb
       ·rw[hwant b hval]
        have:b≠want:=fun e=>hc ((hbw _).2 e)
        cases b<;>cases want<;>first|rfl|exact absurd rfl this
       ·rw[hwant _ hc];simp
     ·exact branch b hval h
    ·exact branch b hval h
   ·split at h
    ·rename_i d hge hd
     obtain⟨s0,w0',b0,hu⟩:=geB_mem hge
     split at h
     ·rename_i g v he
      cases hgb:(g|| !chainB E st (E.length+1) s want)with
      |false=>rw[hgb]at h;cases h
      |true=>
       rw[hgb]at h
       simp only[cond_true]at h
       refine main d g v hd he (fun hc=> ?_) (fun hc=> ?_) (fun hc=> ?_) h
       ·rw[chainB_ok hE F _ s want hc]at hgb
        cases g with
        |true=>rfl
        |false=>cases hgb
       ·obtain⟨_,_,e3⟩:=hE _ hu
        rcases e3 with e3|e3|e3
        ·have hb:a.tmps.getD s undef= .bool b0:=e3.2
         rw[hwant _ hb]
         have:b0≠want:=fun e=>hc (by rw[hb,e])
         cases b0<;>cases want<;>first|rfl|exact absurd rfl this
        ·exact hund e3.1
        ·exact hund (getD_out e3)
       ·rw[hwant _ hc];simp
     ·cases h
    ·cases h
theorem expParts_rel (F:Facts mine w0 st a.tmps w μ ok): ∀ {parts:List (Nat×Operand)} {ys:List (Nat×AV)},expParts st parts=some ys→
 PartsRel w μ0 (argOK fun b=>b<w.heap.size) ys (parts.map fun(i,x)=>(i,a.eval x)):=by
 intro parts
 induction parts with
 |nil=>intro ys h;cases h;exact .nil
 |cons p r ih=>
  intro ys h
  obtain⟨i,x⟩:=p
  rw[expParts]at h
  split at h
  ·rename_i y ys' hy hys
   cases h
   exact .cons ⟨rfl,(expA_rel F (okA:=fun b=>b<w.heap.size) (fun b hb=>F.okB b hb) (fun _ _ h=>h) (rd_rel F x) hy).1⟩ (ih hys)
  ·cases h
omit [Same ρ]in
theorem fuse_sound (hP:TabOk P tb) (hΓ:OrcFit P Γ mine) {ops:Array Oper} {Q:Exit→Act→World→Prop} {i i2:Nat} {o o2:Oper} (hi:ops[i]? =some o) (hi2:ops[i2]? =some o2) (F:Facts mine w0 st a.tmps w μ ok) {st':St} (h:fuseE tb Γ st o o2=some (true,st'))
 {next:Act→World→Prop} (hn: ∀tm' w' μ' ok',Facts mine w0 st' tm' w' μ' ok'→next ⟨tm',a.defers⟩ w'):wpOp P ops Q i (fun a1 w1=>wpOp P ops Q i2 next a1 w1) a w:=by
 unfold fuseE at h
 cases hz:Γ.fuse with
 |false=>rw[hz]at h;cases h
 |true=>
  rw[hz]at h
  simp only[cond_true]at h
  split at h
  ·rename_i T n parts f args ts d d2 hg hg2 hop hop2 hd hd2
   split at h
   ·rename_i d' hargs
    cases hdd:Nat.beq d' d with
    |false=>rw[hdd]at h;cases h
    |true=>
     rw[hdd]at h
     simp only[cond_true]at h
     obtain rfl:=Nat.eq_of_beq_eq_true hdd
     unfold fuseCall at h
     split at h
     ·rename_i e t bytes ys hT hys
      split at h
      ·rename_i xs fl hl
       split at h
       ·rename_i g r hfn
        cases hc:(Nat.beq ys.length n&&(Nat.ble (n*t.size) 65536&&(!r.isRef&&(r.fresh&&(Nat.blt d' st.length&& !(st.at d').isGho)))))with
        |false=>rw[hc]at h;cases h
        |true=>
         rw[hc]at h
         simp only[cond_true,Option.some.injEq,Prod.mk.injEq]at h
         obtain⟨rfl,rfl⟩:=h
         simp only[Bool.and_eq_true,Bool.not_eq_true']at hc
         obtain⟨b1,b2,b3,b4,b5,b6⟩:=hc
         have b1:=Nat.eq_of_beq_eq_true b1
         have b2:=Nat.le_of_ble_eq_true b2
         have b5:d'<st.length:=Nat.le_of_ble_eq_true b5
         have hds:d'<a.tmps.size:=F.slot b6 b5
         have hp:=expParts_rel F hys
         have hpe:(parts.map fun(i,x)=>(i,a.eval x)).toList=parts.toList.map fun(i,x)=>(i,a.eval x):=by rw[Array.toList_map]
         rw[←hpe]at hp
         obtain⟨c,c1,c2,c3,c4,c5⟩:=lit_run (P:=P) (tb:=tb) hP (fun b hb=>⟨rfl,hb.2⟩) hp hT hl b1 b2
         have hw:Region.wanted o (yielded ops a.tmps)=true:=by simp [Region.wanted,hg]
         unfold wpOp
         simp only[hi]
         rw[if_pos hw]
         refine .inl ?_
         unfold Oper.wp
         have he:(execOp a.eval o).run P w= .ok (Next.value (.slice (some ⟨w.heap.size,0,none⟩) n n)) (w.alloc (.cells c e)):=by
          simp only[execOp,hop,Sem.run_bind,c1,Result.andThen_ok,Sem.run_pure]
         rw[he]
         simp only[Oper.upon_value]
         have hput:a.put o.dst (.slice (some ⟨w.heap.size,0,none⟩) n n)=⟨a.tmps.setIfInBounds d' (.slice (some ⟨w.heap.size,0,none⟩) n n),a.defers⟩:=by rw[hd];rfl
         rw[hput]
         have F1:=(F.alloc (.cells c e)).putV d' (v:= .one .junk) (x:= .slice (some ⟨w.heap.size,0,none⟩) n n) trivial rfl
         have hw2: ∀tm,Region.wanted o2 (yielded ops tm)=true:=fun tm=>by simp [Region.wanted,hg2]
         simp only[hi2]
         rw[if_pos (hw2 _)]
         refine .inl ?_
         obtain⟨hcall,hgood⟩:=hΓ.1.1 f _ r hfn
         have hev:(⟨a.tmps.setIfInBounds d' (.slice (some ⟨w.heap.size,0,none⟩) n n),a.defers⟩:Act).eval (.tmp d')= .slice (some ⟨w.heap.size,0,none⟩) n n:=by
          show(a.tmps.setIfInBounds d' _).getD d' undef=_
          rw[getD_set,if_pos ⟨rfl,hds⟩]
         have hrel:AVRel (w.alloc (.cells c e)) μ0 (argOK fun b=>b<(w.alloc (.cells c e)).heap.size) (.one (.sl false t none xs)) (.slice (some ⟨w.heap.size,0,none⟩) n n):=by
          show TRel _ _ (.sl t) xs [_]∧nlRel none _
          refine⟨⟨some ⟨w.heap.size,0,none⟩,n,by rw[c3],by omega,by omega,.inr ⟨w.heap.size,0,⟨none,rfl,fun _=>rfl⟩,fun _=>⟨rfl,by rw[alloc_size];omega⟩,fun j hj=> ?_⟩⟩,trivial⟩
          obtain⟨cs,d1,d3⟩:=c5 j hj
          refine⟨cs,TRel.mono (fun b hb=>RowKit.Below.heap_alloc _ _ _ hb.2) (fun b hb=>⟨rfl,by rw[alloc_size];have:=hb.2;omega⟩) d1,fun q hq=> ?_⟩
          rw[cell_block (heap_at_new w _)]
          have:=d3 q hq
          rw[Nat.zero_add]at this
          rw[Nat.zero_add];exact this
         have hcalls:=hgood (w.alloc (.cells c e)) (fun b=>b<(w.alloc (.cells c e)).heap.size) [.slice (some ⟨w.heap.size,0,none⟩) n n] ⟨fun _ h=>h,F1.glob⟩ (.cons hrel .nil)
         have hrun:(execOp (⟨a.tmps.setIfInBounds d' (.slice (some ⟨w.heap.size,0,none⟩) n n),a.defers⟩:Act).eval o2).run P (w.alloc (.cells c e))= .ok (.enter f #[.slice (some ⟨w.heap.size,0,none⟩) n n]) (w.alloc (.cells c e)):=by
          have hargs':args= #[.tmp d']:=by
           apply Array.ext'
           simpa using hargs
          unfold execOp
          simp only[hop2,resolve,hargs']
          have he2:(⟨a.tmps.setIfInBounds d' (.slice (some ⟨w.heap.size,0,none⟩) n n),a.defers⟩:Act).eval (.func f)= .func (.func f) #[] #[]:=rfl
          simp only[he2,Deferred.ofValue,Sem.run_bind,Sem.run_pure,Result.andThen_ok,invoke]
          have:(#[]++Array.map (⟨a.tmps.setIfInBounds d' (.slice (some ⟨w.heap.size,0,none⟩) n n),a.defers⟩:Act).eval #[.tmp d']++ #[])= #[.slice (some ⟨w.heap.size,0,none⟩) n n]:=by
           simp [hev]
          rw[this]
          exact hcall _ _
         rw[hrun,Oper.upon_enter]
         refine hcalls.mono fun e' w2 hh=> ?_
         obtain⟨v,rfl,hfr,hres⟩:=hh
         obtain⟨ok1,F2,hnew,hgrow⟩:=Facts.back (a:=⟨a.tmps.setIfInBounds d' (.slice (some ⟨w.heap.size,0,none⟩) n n),a.defers⟩) F1 hfr b3 (.inr b4) hres
         obtain⟨μ',F3⟩:=F2.putNew d2 hnew
         have hput2:(⟨a.tmps.setIfInBounds d' (.slice (some ⟨w.heap.size,0,none⟩) n n),a.defers⟩:Act).put o2.dst v=⟨(a.tmps.setIfInBounds d' (.slice (some ⟨w.heap.size,0,none⟩) n n)).setIfInBounds d2 v,a.defers⟩:=by rw[hd2];rfl
         show next ((⟨a.tmps.setIfInBounds d' (.slice (some ⟨w.heap.size,0,none⟩) n n),a.defers⟩:Act).put o2.dst v) w2
         rw[hput2]
         exact hn _ _ _ _ F3
       ·cases h
      ·cases h
     ·cases h
   ·cases h
  ·cases h
theorem runE_sound (hP:TabOk P tb) (hΓ:OrcFit P Γ mine) {ops:Array Oper} {Q:Exit→Act→World→Prop}: ∀(n:Nat) (rest:List Oper) (idx:List Nat) (st:St) (E:GE) (a:Act) (w:World) (μ:Locs) (ok:OK) (K:St→Option ρ),rest.length≤n→
 All2 (fun i o=>ops[i]? =some o) idx rest→Facts mine w0 st a.tmps w μ ok→EOk E st a.tmps w μ ok→runE tb Γ ops.toList rest st E K=some out→Goes mine w0 a.defers K out (Q .normal)→wpOps P ops Q idx a w:=by
 intro n
 induction n with
 |zero=>
  intro rest idx st E a w μ ok K hlen hidx F hE h hn
  obtain rfl:rest=[]:=List.length_eq_zero_iff.1 (by omega)
  cases hidx
  rw[runE]at h
  exact hn _ _ _ _ _ F h
 |succ n ih=>
  intro rest idx st E a w μ ok K hlen hidx F hE h hn
  match rest,hidx,h,hlen with
  |[],hidx,h,_=>
   cases hidx
   rw[runE]at h
   exact hn _ _ _ _ _ F h
  |[o],hidx,h,_=>
   cases hidx with
   | @cons i _ idx _ hi ht=>
     cases ht
     rw[wpOps_cons]
     rw[runE]at h
     exact stepE_sound hP hΓ F hE hi h fun st' E' tm' w' μ' ok' F' hE' h'=>hn _ _ _ _ _ F' h'
  |o::o2::r,hidx,h,hlen=>
   cases hidx with
   | @cons i _ idx _ hi ht=>
     rw[wpOps_cons]
     rw[runE]at h
     split at h
     ·rename_i g st' hf
      cases g with
      |false=>cases h
      |true=>
       simp only[cond_true]at h
       cases ht with
       | @cons i2 _ idx2 _ hi2 ht2=>
         have:=fuse_sound (next:=fun a w=>wpOps P ops Q idx2 a w) (Q:=Q) hP hΓ hi hi2 F hf fun tm' w' μ' ok' F'=>ih r idx2 st' [] ⟨tm',a.defers⟩ w' μ' ok' K (by simp at hlen;omega) ht2 F' EOk.nil h hn
         have e:wpOps P ops Q (i2::idx2)=fun a w=>wpOp P ops Q i2 (wpOps P ops Q idx2) a w:=by funext a w;rw[wpOps_cons]
         rw[e];exact this
     ·exact stepE_sound hP hΓ F hE hi h fun st' E' tm' w' μ' ok' F' hE' h'=>ih (o2::r) idx st' E' ⟨tm',a.defers⟩ w' μ' ok' K (by simp at hlen⊢;omega) ht F' hE' h' hn
end
end Go.AM
