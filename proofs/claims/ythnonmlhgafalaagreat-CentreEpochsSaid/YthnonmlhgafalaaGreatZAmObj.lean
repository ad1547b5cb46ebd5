import Derived.Test.YthnonmlhgafalaaGreatZAmHot
set_option linter.unusedVariables false
set_option linter.unusedSectionVars false
namespace Go.AM
section
variable {P:Program} {w:World} {μ:Locs} {okA:Nat→Prop}
theorem encV_compM {ok:OK} {t:Ty} {x:t.D} {v:Value} (h:compRel w μ ok (t.isAgg,enc t false x) v):AVRel w μ ok (encV t x) v:=by
 cases t with
 |int k=>obtain⟨y,e,h⟩:=h;simp only[enc,List.cons.injEq,and_true]at e;subst e;exact h
 |bool=>obtain⟨y,e,h⟩:=h;simp only[enc,List.cons.injEq,and_true]at e;subst e;exact h
 |str=>obtain⟨y,e,h⟩:=h;simp only[enc,List.cons.injEq,and_true]at e;subst e;exact h
 |sl t=>obtain⟨y,e,h⟩:=h;simp only[enc,List.cons.injEq,and_true]at e;subst e;exact h
 |unit=>exact h
 |pair a b=>exact h
theorem decV_relM {t:Ty} {a:AV} {x:t.D} {v:Value} (h:AVRel w μ (argOK okA) a v) (hd:decV t a=some x):AVRel w μ (argOK okA) (encV t x) v∧WF t x:=by
 unfold decV at hd
 split at hd
 ·rename_i x' f he
  cases hd
  have hv:=toD_rel argT h he
  exact⟨encV_compM (ofD_rel (hv.mono (fun _ _=>rfl) fun b hb=>⟨rfl,hb.2⟩)),hv.wf⟩
 ·cases hd
theorem decA_relM: ∀ {ks:List AK} {l:List AV} {x:ADen ks} {vs:List Value},All2 (AVRel w μ (argOK okA)) l vs→decA ks l=some x→All2 (AVRel w μ (argOK okA)) (encA ks x) vs∧WFA ks x:=by
 have one: ∀ {k:AK} {a:AV} {x:k.D} {v:Value},AVRel w μ (argOK okA) a v→k.dec a=some x→AVRel w μ (argOK okA) (k.enc x) v:=by
  intro k a x v h hd
  cases k with
  |v t=>exact(decV_relM h hd).1
  |raw=>cases hd;exact h
 intro ks
 induction ks with
 |nil=>
  intro l x vs h hd
  cases h with
  |nil=>exact⟨.nil,trivial⟩
  |cons _ _=>simp [decA]at hd
 |cons k ks ih=>
  intro l x vs h hd
  cases h with
  |nil=>cases ks<;>simp [decA]at hd
  | @cons a v l vs ha hl=>
    cases ks with
    |nil=>
     cases hl with
     |nil=>
      refine⟨.cons (one ha hd) .nil, ?_⟩
      cases k with
      |v t=>exact(decV_relM ha hd).2
      |raw=>trivial
     |cons _ _=>simp [decA]at hd
    |cons k' ks=>
     simp only[decA]at hd
     split at hd
     ·rename_i x' y h1 h2
      cases hd
      obtain⟨g1,g2⟩:=ih hl h2
      refine⟨.cons (one ha h1) g1, ?_⟩
      cases k with
      |v t=>exact⟨(decV_relM ha h1).2,g2⟩
      |raw=>exact g2
     ·cases hd
def objSp (T:Ty) (ks:List AK) (g:T.D→ADen ks→Bool×AV×T.D):Sp:= .io fun a p gs=>match a,p,gs with
 | .one (.ptr 0 0)::rest,1,[.own cs]=>
   (match decAll T cs,decA ks rest with
   |some (c,_),some x=>some ((g c x).1,(g c x).2.1,[.own (enc T false (g c x).2.2)])
   |_,_=>none)
 |_,_,_=>none
theorem ownAt_one (a:AV) (k:Nat):ownAt [a] k=if k=0 then a else .one .junk:=by
 unfold ownAt
 cases k<;>rfl
theorem goodObj {f:FuncId} (hc:Callable P f) {T:Ty} {ks:List AK} {g:T.D→ADen ks→Bool×AV×T.D}
 (h: ∀c x,WF T c→WFA ks x→(g c x).1=true→ ∃gs',GoodIO P f (.one (.ptr 0 0)::encA ks x) 1 [.own (enc T false c)] (g c x).2.1 gs'∧renAs false some gs'=some [.own (enc T false (g c x).2.2)]):GoodS P f (objSp T ks g):=by
 refine GoodS.io hc fun a p gs r gs' hw1 hw2 he=> ?_
 clear hw1 hw2
 split at he
 ·rename_i rest cs
  split at he
  ·rename_i c fl x hd hx
   simp only[Option.some.injEq,Prod.mk.injEq]at he
   obtain⟨e1,e2,e3⟩:=he
   intro w okA vs μ hA hargs hO
   cases hargs with
   | @cons _ v _ vs h1 h2=>
     obtain⟨j1,j2⟩:=decA_relM h2 hx
     obtain⟨b,cc,E,o1,o2,o3⟩:=(hO.own 0: ∃b c E,(μ 0).b=some b∧w.heap[b]? =some (.cells c E (0,0))∧All2 (SVRel w μ (argOK okA)) cs c.toList)
     have ht:=decAll_rel argT o3 hd
     obtain⟨gs0,k1,k2⟩:=h c x ht.wf j2 e1
     have hm:ioMine [.own (enc T false c)] μ=ioMine [AV.own cs] μ:=by
      funext b
      refine propext ⟨?_, ?_⟩
      ·rintro⟨k,q1,q2⟩
       rw[ownAt_one]at q1
       split at q1
       ·rename_i hk;subst hk;exact⟨0,rfl,q2⟩
       ·cases q1
      ·rintro⟨k,q1,q2⟩
       rw[ownAt_one]at q1
       split at q1
       ·rename_i hk;subst hk;exact⟨0,rfl,q2⟩
       ·cases q1
     have hO':OwnsOk w μ (argOK okA) [.own (enc T false c)]:=by
      refine⟨fun k=> ?_,fun k b' q1 q2=> ?_,fun j k b' q1 q2=> ?_⟩
      ·rw[ownAt_one]
       split
       ·rename_i hk;subst hk
        exact⟨b,cc,E,o1,o2,enc_rel (fr:=false) (TRel.mono (fun _ _=>rfl) (fun b hb=>⟨rfl,hb.2⟩) ht)⟩
       ·trivial
      ·rw[ownAt_one]at q1
       split at q1
       ·rename_i hk;subst hk;exact hO.blk 0 b' rfl q2
       ·cases q1
      ·rw[ownAt_one]at q1 q2
       split at q1
       ·rename_i hj;subst hj
        split at q2
        ·rename_i hk;subst hk;exact fun _ _=>rfl
        ·cases q2
       ·cases q1
     have:=(k1.weak k2) w okA (v::vs) μ (by rw[hm];exact hA) (.cons h1 j1) hO'
     rw[hm,e2,e3]at this
     exact this
  ·cases he
 ·cases he
def OwnLe (a b:AV):Prop:=b.isOwner=a.isOwner∧ ∀(w:World) (μ:Locs) (ok:OK),(∀k,ok true k→ok false k)→ ∀i,OwnRel w μ ok i a→OwnRel w μ ok i b
theorem OwnLe.refl (a:AV):OwnLe a a:=⟨rfl,fun _ _ _ _ _ h=>h⟩
theorem OwnLe.dec {T:Ty} {cs:List SV} {x:T.D} {f:Bool} (h:decAll T cs=some (x,f)):OwnLe (.own cs) (.own (enc T false x)):=
 ⟨rfl,fun w μ ok hT i hr=>by
  obtain⟨b,c,E,o1,o2,o3⟩:=hr
  refine⟨b,c,E,o1,o2,enc_rel (fr:=false) (TRel.mono (fun _ _=>rfl) (fun b hb=> ?_) (decAll_rel hT o3 h))⟩
  cases f
  ·exact hb
  ·exact hT b hb⟩
theorem ownLe_at: ∀ {gs hs:List AV},All2 OwnLe gs hs→ ∀k,OwnLe (ownAt gs k) (ownAt hs k):=by
 intro gs hs h
 induction h with
 |nil=>intro k;exact OwnLe.refl _
 |cons h1 _ ih=>
  intro k
  cases k with
  |zero=>exact h1
  |succ k=>exact ih k
theorem ioMine_le {gs hs:List AV} (h:All2 OwnLe gs hs):ioMine hs μ=ioMine gs μ:=by
 funext b
 refine propext ⟨fun⟨k,q1,q2⟩=>⟨k,by rw[←(ownLe_at h k).1];exact q1,q2⟩,fun⟨k,q1,q2⟩=>⟨k,by rw[(ownLe_at h k).1];exact q1,q2⟩⟩
theorem OwnsOk.le {ok:OK} (hT: ∀k,ok true k→ok false k) {gs hs:List AV} (h:All2 OwnLe gs hs) (ho:OwnsOk w μ ok gs):OwnsOk w μ ok hs:=
 ⟨fun k=>(ownLe_at h k).2 w μ ok hT k (ho.own k),fun k b h1 h2=>ho.blk k b (by rw[←(ownLe_at h k).1];exact h1) h2,fun j k b h1 h2=>ho.inj j k b (by rw[←(ownLe_at h j).1];exact h1) (by rw[←(ownLe_at h k).1];exact h2)⟩
theorem GoodE.pre {E:Array Value→World→(Ending→World→Prop)→Prop} {args:List AV} {p:Nat} {gs0 gs:List AV} {r:AV} {gs':List AV} (hle:All2 OwnLe gs0 gs) (h:GoodE E args p gs r gs'):GoodE E args p gs0 r gs':=by
 intro w okA vs μ hA hargs hO
 have:=h w okA vs μ (by rw[ioMine_le hle];exact hA) hargs (hO.le argT hle)
 rw[ioMine_le hle]at this
 exact this
theorem GoodE.post {E:Array Value→World→(Ending→World→Prop)→Prop} (hm: ∀ {vs w} {R R':Ending→World→Prop},E vs w R→(∀e w',R e w'→R' e w')→E vs w R') {args:List AV} {p:Nat} {gs:List AV} {r:AV} {gs' gs'':List AV} (hle:All2 OwnLe gs' gs'') (h:GoodE E args p gs r gs'):GoodE E args p gs r gs'':=by
 intro w okA vs μ hA hargs hO
 refine hm (h w okA vs μ hA hargs hO) fun e w' hh=> ?_
 obtain⟨v,e1,hfr,ok',μ',g1,g2,g3,g4,g5,g6⟩:=hh
 exact⟨v,e1,hfr,ok',μ',g1,g2,g3,g4.le g2 hle,fun k b h1 h2=>g5 k b (by rw[←(ownLe_at hle k).1];exact h1) h2,g6⟩
theorem Good.asSl {f:FuncId} {l:List AV} {t:Ty} {xs:List t.D} (h:Good P f l (.arr true t xs)):Good P f l (.one (.sl true t none xs)):=by
 intro w okA vs hA hv
 refine(h w okA vs hA hv).mono fun e w' hh=> ?_
 obtain⟨v,e,fr,hr⟩:=hh
 exact⟨v,e,fr,wk_rel (ws:=[.sl true t]) hr⟩
theorem GoodS.asSl {f:FuncId} {ks:List AK} {t:Ty} {b:ADen ks→Bool} {g:ADen ks→List t.D} (h:GoodS P f (.fn ks fun x=>(b x,.arr true t (g x)))):GoodS P f (.fn ks fun x=>(b x,.one (.sl true t none (g x)))):=by
 refine⟨h.1,fun l r e=> ?_,fun l p gs r gs' e=>by cases e⟩
 simp only[Sp.run]at e
 split at e
 ·rename_i x hx
  simp only[Option.some.injEq,Prod.mk.injEq]at e
  obtain⟨e1,rfl⟩:=e
  refine Good.asSl (h.2.1 l _ ?_)
  simp only[Sp.run,hx]
  rw[e1]
 ·cases e
end
end Go.AM
