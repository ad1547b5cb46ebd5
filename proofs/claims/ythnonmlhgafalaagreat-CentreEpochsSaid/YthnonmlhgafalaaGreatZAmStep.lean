import Derived.Test.YthnonmlhgafalaaGreatZAmOps
import Derived.Calls
import Derived.Laws.AppendOwn
import Derived.Deep.AppendSrc
import Derived.Laws.BytesString
set_option linter.unusedVariables false
set_option linter.unusedSimpArgs false
namespace Go.AM
def μ0:Locs:=fun _=>⟨none,0,0⟩
def argOK (okA:Nat→Prop):OK:=fun fr b=>fr=false∧okA b
section
variable {mine:Cx} {w0:World} {st:St} {a:Act} {w:World} {μ:Locs} {ok:OK}
theorem slv_rel {l:Loc} {t:Ty} {xs:List t.D} {okf okA:Nat→Prop} (h:ArrRel w okf l t xs) (hw: ∀b,okf b→okA b) (hb: ∀b,l.b=some b→okA b) (m:Nat) (hm:m≤xs.length):
 TRel w okA (.sl t) (xs.take m) [.slice (l.b.map fun b=>⟨b,0,none⟩) m l.cap]:=by
 obtain⟨h1,h2,h3,h4⟩:=h
 have hl:(xs.take m).length=m:=by simp;omega
 refine⟨_,l.cap,by rw[hl],by rw[hl];omega,h3, ?_⟩
 rcases h4 with⟨k1,rfl,k3⟩|⟨b,c,E,k1,k2,k3,k4⟩
 ·exact .inl ⟨by rw[k1];rfl,by simp,k3⟩
 ·refine .inr ⟨b,0,⟨none,by rw[k1];rfl,fun _=>rfl⟩,fun _=>hb b k1,fun j hj=> ?_⟩
  obtain⟨cs,g1,g2⟩:=k4 j (by omega)
  refine⟨cs,by simpa using TRel.mono (fun _ _=>rfl) hw g1,fun q hq=> ?_⟩
  rw[cell_block k2,Nat.zero_add]
  exact g2 q hq
theorem arr_of (F:Facts mine w0 st a.tmps w μ ok) {s:Nat} {fr:Bool} {t:Ty} {xs:List t.D} (h:st.ow s= .arr fr t xs):ArrRel w (ok fr) (μ s) t xs:=by
 have:=F.owns s
 rw[h]at this
 exact this
theorem expC_rel (F:Facts mine w0 st a.tmps w μ ok) {okA:Nat→Prop} (hA: ∀b,ok false b→okA b) (hR: ∀b,b<w.heap.size→okA b) {x:SV} {v:Value} (h:SVRel w μ ok x v):SVRel w μ (argOK okA) (expC st x) v:=by
 have up: ∀f b,ok f b→argOK okA false b:=fun f b hb=>⟨rfl,hA b (F.ok_any hb)⟩
 have hj:SVRel w μ (argOK okA) .junk v:=SVRel.one h
 cases x with
 |bool b=>exact h
 |int k n=>exact h
 |str s=>exact h
 |sl fr t nl xs=>exact⟨TRel.mono (fun _ _=>rfl) (up fr) h.1,h.2⟩
 |hot s n=>
  simp only[expC]
  split
  ·rename_i f t xs hs
   have hr:=arr_of F hs
   obtain⟨rfl,hm,hb⟩:=h
   have hbl: ∀b,(μ s).b=some b→argOK okA false b:=fun b hb'=>⟨rfl,hR b (F.ownB s b (by rw[hs];rfl) hb').1⟩
   refine⟨?_,trivial⟩
   cases n with
   |none=>
    have:=slv_rel hr (up f) hbl xs.length (Nat.le_refl _)
    rw[List.take_length]at this
    unfold slv
    rw[Option.getD_none,hr.1];exact this
   |some m=>
    have hml:=hm m rfl
    exact slv_rel hr (up f) hbl m (by rw[←hr.1];exact hml)
  ·exact hj
 |_=>exact hj
theorem expC_all (F:Facts mine w0 st a.tmps w μ ok) {okA:Nat→Prop} (hA: ∀b,ok false b→okA b) (hR: ∀b,b<w.heap.size→okA b) {cs:List SV} {vs:List Value} (h:All2 (SVRel w μ ok) cs vs):All2 (SVRel w μ (argOK okA)) (cs.map (expC st)) vs:=by
 induction h with
 |nil=>exact .nil
 |cons h1 _ ih=>exact .cons (expC_rel F hA hR h1) ih
theorem argOK_tf {okA:Nat→Prop}: ∀b,argOK okA true b→argOK okA false b:=fun b h=>absurd h.1 (by simp)
theorem expCaps_rel (F:Facts mine w0 st a.tmps w μ ok) {okA:Nat→Prop} (hA: ∀b,ok false b→okA b): ∀ {caps cs:List Cap} {vs:List Value},(caps.any Cap.isRef=true→ ∀b,b<w.heap.size→okA b)→
 All2 (CapRel w μ ok) caps vs→expS.expCaps st caps=some cs→All2 (CapRel w μ0 (argOK okA)) cs vs∧cs.any Cap.isRef=false:=by
 intro caps
 induction caps with
 |nil=>intro cs vs _ h he;simp only[expS.expCaps,Option.some.injEq]at he;subst he;cases h;exact⟨.nil,rfl⟩
 |cons c caps ih=>
  intro cs vs hR h he
  cases h with
  | @cons _ v _ vs hv hvs=>
    have hR':caps.any Cap.isRef=true→ ∀b,b<w.heap.size→okA b:=fun hh=>hR (by simp [List.any_cons,hh])
    cases c with
    |ref s off=>
     simp only[expS.expCaps]at he
     split at he
     ·rename_i ocs hs
      split at he
      ·rename_i f t x r' h1 h2
       cases he
       obtain⟨g1,g2⟩:=ih hR' hvs h2
       refine⟨.cons ?_ g1,by simp [Cap.isRef,g2]⟩
       obtain⟨b,c,E,k1,k2,k3⟩:=ownCells F hs
       obtain⟨b',k1',rfl⟩:=hv
       rw[k1]at k1';cases k1'
       have hlt:b<w.heap.size:=(F.ownB s b (by rw[hs];rfl) k1).1
       have hR0:=hR (by simp [Cap.isRef])
       have hok:=hR0 b hlt
       refine⟨b,0,c.toList,rfl,⟨rfl,hok⟩,TRel.mono (fun _ _=>rfl) (fun b hb=>by cases f with|true=>exact argOK_tf b hb|false=>exact hb) (tyOf_rel argOK_tf (expC_all F hA hR0 k3) h1),fun q hq=> ?_⟩
       rw[cell_block k2,Nat.zero_add]
       simp only[Array.length_toList]at hq
       simp [hq]
      ·cases he
     ·cases he
    |ptrD f t x=>
     simp only[expS.expCaps]at he
     split at he
     ·rename_i r' h2
      cases he
      obtain⟨g1,g2⟩:=ih hR' hvs h2
      refine⟨.cons ?_ g1,by simp [Cap.isRef,g2]⟩
      obtain⟨b,o,us,e,k1,k2,k3⟩:=hv
      exact⟨b,o,us,e,⟨rfl,hA b (F.ok_any k1)⟩,TRel.mono (fun _ _=>rfl) (fun b hb=>⟨rfl,hA b (F.ok_any hb)⟩) k2,k3⟩
     ·cases he
    |valD f t x=>
     simp only[expS.expCaps]at he
     split at he
     ·rename_i r' h2
      cases he
      obtain⟨g1,g2⟩:=ih hR' hvs h2
      refine⟨.cons ?_ g1,by simp [Cap.isRef,g2]⟩
      unfold CapRel at*
      have hlen: ∀ {t:Ty} {x:t.D} (f g:Bool),(enc t f x).length=(enc t g x).length:=by
       intro t
       induction t with
       |pair a b iha ihb=>intro x f g;simp [enc,iha f g,ihb f g]
       |_=>intro x f g;rfl
      have hcell: ∀ {t:Ty} {x:t.D} {us:List Value},All2 (SVRel0 w μ ok) (enc t f x) us→All2 (SVRel0 w μ0 (argOK okA)) (enc t false x) us:=by
       intro t
       induction t with
       |int k=>intro x us hh;cases hh with|cons h1 h2=>cases h2;exact .cons h1 .nil
       |bool=>intro x us hh;cases hh with|cons h1 h2=>cases h2;exact .cons h1 .nil
       |str=>intro x us hh;cases hh with|cons h1 h2=>cases h2;exact .cons h1 .nil
       |unit=>intro x us hh;cases hh;exact .nil
       |sl t _=>intro x us hh;cases hh with|cons h1 h2=>cases h2;exact .cons ⟨TRel.mono (fun _ _=>rfl) (fun b hb=>⟨rfl,hA b (F.ok_any hb)⟩) h1.1,trivial⟩ .nil
       |pair a b iha ihb=>
        intro x us hh
        obtain⟨u,v,rfl,h1,h2⟩:=hh.split
        exact(iha h1).append (ihb h2)
      simp only[capVal]at*
      split at hv
      ·rename_i y hy
       have h1:All2 (SVRel0 w μ ok) (enc t f x) [v]:=by rw[hy];exact .cons hv .nil
       have h2:=hcell h1
       have hl:=hlen (x:=x) f false
       rw[hy]at hl
       match hz:enc t false x,hl with
       |[z],_=>
        rw[hz]at h2
        cases h2 with
        |cons h3 _=>exact h3
      ·rename_i hn
       obtain⟨us,e,hh⟩:=hv
       have h2:=hcell hh
       split
       ·rename_i z hz
        have hl:=hlen (x:=x) f false
        rw[hz]at hl
        match hq:enc t f x,hl with
        |[z'],_=>exact absurd hq (hn z')
       ·exact⟨us,e,h2⟩
     ·cases he
theorem expS_rel (F:Facts mine w0 st a.tmps w μ ok) {okA:Nat→Prop} (hA: ∀b,ok false b→okA b) {x y:SV} {v:Value} (hR:x.isRef=true→ ∀b,b<w.heap.size→okA b)
 (h:SVRel w μ ok x v) (he:expS st x=some y):SVRel w μ0 (argOK okA) y v∧y.isRef=false∧y≠ .junk:=by
 have up: ∀f b,ok f b→argOK okA false b:=fun f b hb=>⟨rfl,hA b (F.ok_any hb)⟩
 cases x with
 |junk=>cases he
 |bool b=>cases he;exact⟨h,rfl,by simp⟩
 |int k n=>cases he;exact⟨h,rfl,by simp⟩
 |str s=>cases he;exact⟨h,rfl,by simp⟩
 |nilp=>cases he;exact⟨h,rfl,by simp⟩
 |nils=>cases he;exact⟨h,rfl,by simp⟩
 |nilf=>cases he;exact⟨h,rfl,by simp⟩
 |nilm=>cases he;exact⟨h,rfl,by simp⟩
 |sm fr kt vt es=>
  cases he
  refine⟨?_,rfl,by simp⟩
  rcases h with h|⟨b,e,hb,h⟩
  ·exact .inl h
  ·exact .inr ⟨b,e,up fr b hb,h.mono (fun _ _=>rfl) (up fr) rfl⟩
 |mref s=>
  simp only[expS]at he
  split at he
  ·rename_i f kt vt es hs
   cases he
   obtain⟨b,k1,rfl⟩:=h
   have ho:=F.owns s
   rw[hs]at ho
   obtain⟨b',k1',hm⟩:=ho
   rw[k1]at k1';cases k1'
   exact⟨.inr ⟨b,rfl,⟨rfl,hR rfl b (F.ownB s b (by rw[hs];rfl) k1).1⟩,hm.mono (fun _ _=>rfl) (up f) rfl⟩,rfl,by simp⟩
  ·cases he
 |sl fr t nl xs=>
  cases he
  exact⟨⟨TRel.mono (fun _ _=>rfl) (up fr) h.1,h.2⟩,rfl,by simp⟩
 |rp fr t z off=>
  cases he
  obtain⟨b,o,cs,e,h1,h2,h3⟩:=h
  exact⟨⟨b,o,cs,e,up fr b h1,TRel.mono (fun _ _=>rfl) (up fr) h2,h3⟩,rfl,by simp⟩
 |ptr s off=>
  simp only[expS]at he
  split at he
  ·rename_i cs hs
   split at he
   ·rename_i f t z ht
    cases he
    obtain⟨b,c,E,k1,k2,k3⟩:=ownCells F hs
    obtain⟨b',k1',rfl⟩:=h
    rw[k1]at k1';cases k1'
    have hlt:b<w.heap.size:=(F.ownB s b (by rw[hs];rfl) k1).1
    refine⟨⟨b,0,c.toList,by simp,⟨rfl,hR rfl b hlt⟩,TRel.mono (fun _ _=>rfl) (fun b hb=>by cases f with|true=>exact argOK_tf b hb|false=>exact hb) (tyOf_rel argOK_tf (expC_all F hA (hR rfl) k3) ht),fun q hq=> ?_⟩,rfl,by simp⟩
    rw[cell_block k2,Nat.zero_add]
    simp only[Array.length_toList]at hq
    simp [hq]
   ·cases he
  ·cases he
 |aptr s base len idx=>cases he
 |gp g len i=>cases he
 |hot s n=>
  simp only[expS]at he
  split at he
  ·rename_i f t xs hs
   cases he
   have hr:=arr_of F hs
   obtain⟨rfl,hm,hb⟩:=h
   have hbl: ∀b,(μ s).b=some b→argOK okA false b:=fun b hb'=>⟨rfl,hR rfl b (F.ownB s b (by rw[hs];rfl) hb').1⟩
   refine⟨⟨?_,trivial⟩,rfl,by simp⟩
   cases n with
   |none=>
    have:=slv_rel hr (up f) hbl xs.length (Nat.le_refl _)
    rw[List.take_length]at this
    unfold slv
    rw[Option.getD_none,hr.1];exact this
   |some m=>
    have hml:=hm m rfl
    exact slv_rel hr (up f) hbl m (by rw[←hr.1];exact hml)
  ·cases he
 |cut s sz lo hi=>
  simp only[expS]at he
  split at he
  ·rename_i f t xs hs
   cases hz:Nat.beq sz t.size with
   |false=>rw[hz]at he;cases he
   |true=>
   rw[hz]at he
   obtain rfl:=Nat.eq_of_beq_eq_true hz
   cases he
   have hr:=arr_of F hs
   obtain⟨b,hb,rfl,h1,h2⟩:=(h:SVRel0 w μ ok (.cut s t.size lo hi) v)
   have hbl: ∀b,(μ s).b=some b→argOK okA false b:=fun b hb'=>⟨rfl,hR rfl b (F.ownB s b (by rw[hs];rfl) hb').1⟩
   refine⟨⟨?_,trivial⟩,rfl,by simp⟩
   have hl:hi≤xs.length:=by rw[←hr.1];exact h2
   have:=(slv_rel hr (up f) hbl hi hl).drop lo (by simp;omega)
   have hc: ¬(μ s).cap=lo:=by have:=hr.2.1;omega
   unfold slv at this
   rw[hb]at this
   simp only[Option.map_some,Option.getD_some,if_neg hc,add_none,Nat.zero_add]at this
   exact this
  ·cases he
 |hptr s sz i off=>
  simp only[expS]at he
  split at he
  ·rename_i f t xs hs
   cases hz:Nat.beq sz t.size with
   |false=>simp [hz]at he
   |true=>
    obtain rfl:=Nat.eq_of_beq_eq_true hz
    simp only[hz,cond_true,Option.some.injEq]at he
    subst he
    obtain⟨g1,g2,g3,g4⟩:=arr_of F hs
    obtain⟨b,k1,rfl,k3,k4⟩:=h
    rcases g4 with⟨g4,_⟩|⟨b',c,E,e1,e2,e3,e4⟩
    ·rw[k1]at g4;cases g4
    ·rw[k1]at e1;cases e1
     have hlt:i.toNat<xs.length:=by omega
     obtain⟨cs,t1,t2⟩:=e4 i.toNat hlt
     refine⟨⟨b,i.toNat*t.size,cs,rfl,⟨rfl,hR rfl b (F.ownB s b (by rw[hs];rfl) k1).1⟩, ?_,fun q hq=>by rw[cell_block e2];exact t2 q hq⟩,rfl,by simp⟩
     rw[getD_at _ _ hlt]
     exact TRel.mono (fun _ _=>rfl) (up f) t1
  ·cases he
 |fn f caps=>
  simp only[expS]at he
  split at he
  ·rename_i cs hc
   cases he
   obtain⟨vs,e,hh⟩:=h
   obtain⟨g1,g2⟩:=expCaps_rel F hA hR hh hc
   exact⟨⟨vs,e,g1⟩,g2,by simp⟩
  ·cases he
theorem expL_rel (F:Facts mine w0 st a.tmps w μ ok) {okA:Nat→Prop} (hA: ∀b,ok false b→okA b): ∀ {xs ys:List SV} {vs:List Value},(xs.any SV.isRef=true→ ∀b,b<w.heap.size→okA b)→
 All2 (SVRel w μ ok) xs vs→expL st xs=some ys→All2 (SVRel w μ0 (argOK okA)) ys vs∧ys.any SV.isRef=false:=by
 intro xs
 induction xs with
 |nil=>intro ys vs _ h he;simp only[expL,Option.some.injEq]at he;subst he;cases h;exact⟨.nil,rfl⟩
 |cons x xs ih=>
  intro ys vs hR h he
  cases h with
  |cons hx hxs=>
   simp only[expL]at he
   split at he
   ·rename_i y ys' h1 h2
    cases he
    obtain⟨g1,g2,_⟩:=expS_rel F hA (fun hh=>hR (by simp [List.any_cons,hh])) hx h1
    obtain⟨g3,g4⟩:=ih (fun hh=>hR (by simp [List.any_cons,hh])) hxs h2
    exact⟨.cons g1 g3,by simp [g2,g4]⟩
   ·cases he
theorem expA_rel (F:Facts mine w0 st a.tmps w μ ok) {okA:Nat→Prop} (hA: ∀b,ok false b→okA b) {x y:AV} {v:Value} (hR:x.isRef=true→ ∀b,b<w.heap.size→okA b)
 (h:AVRel w μ ok x v) (he:expA st x=some y):AVRel w μ0 (argOK okA) y v∧y.isRef=false:=by
 cases x with
 |one x=>
  simp only[expA]at he
  split at he
  ·rename_i z hz
   cases he
   have hj:x≠ .junk:=by intro e;subst e;simp [expS]at hz
   obtain⟨g1,g2,g3⟩:=expS_rel F hA hR (one_of hj h) hz
   exact⟨by rw[AVRel.eq1 g3];exact g1,g2⟩
  ·cases he
 |agg cs=>
  simp only[expA]at he
  split at he
  ·rename_i z hz
   cases he
   obtain⟨vs,e,hh⟩:=h
   obtain⟨g1,g2⟩:=expL_rel F hA hR hh hz
   exact⟨⟨vs,e,g1⟩,g2⟩
  ·cases he
 |tup l=>cases he
 |own cs=>cases he
 |arr f t xs=>cases he
 |mapO f kt vt es=>cases he
 |gho o=>cases he
theorem expAs_rel (F:Facts mine w0 st a.tmps w μ ok) {okA:Nat→Prop} (hA: ∀b,ok false b→okA b): ∀ {xs ys:List AV} {vs:List Value},(xs.any AV.isRef=true→ ∀b,b<w.heap.size→okA b)→
 All2 (AVRel w μ ok) xs vs→expAs st xs=some ys→All2 (AVRel w μ0 (argOK okA)) ys vs:=by
 intro xs
 induction xs with
 |nil=>intro ys vs _ h he;simp only[expAs,Option.some.injEq]at he;subst he;cases h;exact .nil
 |cons x xs ih=>
  intro ys vs hR h he
  cases h with
  |cons hx hxs=>
   simp only[expAs]at he
   split at he
   ·rename_i y ys' h1 h2
    cases he
    exact .cons (expA_rel F hA (fun hh=>hR (by simp [List.any_cons,hh])) hx h1).1 (ih (fun hh=>hR (by simp [List.any_cons,hh])) hxs h2)
   ·cases he
end
def resOK (w w':World) (okA:Nat→Prop) (fr:Bool) (b:Nat):Prop:=(w.heap.size≤b∧b<w'.heap.size)∨(fr=false∧okA b)
def ResCore (w w':World) (ok':OK):AV→Value→Prop
 | .own cs,v=> ∃b c E,v= .pointer (some ⟨b,0,none⟩)∧w'.heap[b]? =some (.cells c E (0,0))∧All2 (SVRel w' μ0 ok') cs c.toList∧w.heap.size≤b∧b<w'.heap.size∧ ¬ok' false b
 | .arr fr t xs,v=> ∃l,v=slv l none∧ArrRel w' (ok' fr) l t xs∧ ∀b,l.b=some b→w.heap.size≤b∧b<w'.heap.size∧ ¬ok' false b
 | .mapO fr kt vt es,v=> ∃b,v= .map (some b)∧MapRel w' (ok' fr) kt vt es b∧w.heap.size≤b∧b<w'.heap.size∧ ¬ok' false b
 |r,v=>AVRel w' μ0 ok' r v
def ResRel (w:World) (okA:Nat→Prop) (w':World) (r:AV) (v:Value):Prop:=
 ∃ok':OK,(∀fr b,ok' fr b→resOK w w' okA fr b)∧(∀b,ok' true b→ok' false b)∧ResCore w w' ok' r v
def Callable (P:Program) (f:FuncId):Prop:= ∀(args:Array Value) (w:World),(callFunc f args).run P w= .ok (.enter f args) w
def Good (P:Program) (f:FuncId) (args:List AV) (r:AV):Prop:=
 ∀(w:World) (okA:Nat→Prop) (vs:List Value),BaseOk w okA→All2 (AVRel w μ0 (argOK okA)) args vs→
  Calls P f vs.toArray w fun e w'=> ∃v,e= .returned v∧Fr none1 w w'∧ResRel w okA w' r v
def ownAt (gs:List AV) (k:Nat):AV:=gs.getD k (.one .junk)
structure OwnsOk (w:World) (μ:Locs) (ok:OK) (gs:List AV):Prop where
 own: ∀k,OwnRel w μ ok k (ownAt gs k)
 blk: ∀k b,(ownAt gs k).isOwner=true→(μ k).b=some b→b<w.heap.size∧ ¬ok false b
 inj: ∀j k b,(ownAt gs j).isOwner=true→(ownAt gs k).isOwner=true→(μ j).b=some b→(μ k).b=some b→j=k
def ioMine (gs:List AV) (μ:Locs) (b:Nat):Prop:= ∃k,(ownAt gs k).isOwner=true∧(μ k).b=some b
def GoodE (E:Array Value→World→(Ending→World→Prop)→Prop) (args:List AV) (p:Nat) (gs:List AV) (r:AV) (gs':List AV):Prop:=
 ∀(w:World) (okA:Nat→Prop) (vs:List Value) (μ:Locs),(BaseOk w okA∧ ∀g l,glGet g=some l→ ¬ioMine gs μ g)→All2 (AVRel w μ (argOK okA)) args vs→OwnsOk w μ (argOK okA) gs→
  E vs.toArray w fun e w'=> ∃v,e= .returned v∧Fr (ioMine gs μ) w w'∧ ∃(ok':OK) (μ':Locs),
    (∀fr b,ok' fr b→resOK w w' okA fr b)∧(∀b,ok' true b→ok' false b)∧AVRel w' μ' ok' r v∧OwnsOk w' μ' ok' gs'∧
    (∀k b,(ownAt gs' k).isOwner=true→(μ' k).b=some b→w.heap.size≤b∨ioMine gs μ b)∧(∀k,k<p→μ' k=μ k)
def GoodIO (P:Program) (f:FuncId) (args:List AV) (p:Nat) (gs:List AV) (r:AV) (gs':List AV):Prop:=GoodE (Calls P f) args p gs r gs'
def OrcOk (P:Program) (Γ:Orc):Prop:=
 (∀f xs r,Γ.fn f xs=some (true,r)→Callable P f∧Good P f xs r)∧(∀f xs p gs r gs',Γ.io f xs p gs=some (true,r,gs')→Callable P f∧GoodIO P f xs p gs r gs')
def LoOk (Γ:Orc) (k:Nat):Prop:= ∀x,Γ.lo=some x→k≤x
theorem lo_none {Γ:Orc} {k:Nat} (h:Γ.lo=none):LoOk Γ k:=fun x hx=>by rw[h]at hx;cases hx
def OrcFit (P:Program) (Γ:Orc) (mine:Cx):Prop:=OrcOk P Γ∧ ∀x,Γ.lo=some x→mine.n≤x∧mine.m≤x
section
variable {w:World} {μ:Locs} {ok:OK}
theorem SVRel.fresh {x:SV} {v:Value} (hf:x.fresh=true) (h:SVRel w μ ok x v):SVRel w μ (fun _=>ok true) x v:=by
 cases x with
 |sl fr t nl xs=>
  obtain rfl:fr=true:=hf
  exact h
 |rp fr t x off=>
  obtain rfl:fr=true:=hf
  exact h
 |sm fr kt vt es=>
  obtain rfl:fr=true:=hf
  exact h
 |fn f caps=>
  obtain⟨vs,e,hh⟩:=h
  refine⟨vs,e,hh.imp_mem fun c v hc hcv=> ?_⟩
  have hcf:c.fresh=true:=List.all_eq_true.1 hf c hc
  cases c with
  |ref s off=>cases hcf
  |ptrD fr t x=>
   obtain rfl:fr=true:=hcf
   exact hcv
  |valD fr t x=>
   obtain rfl:fr=true:=hcf
   unfold CapRel at*
   have hcell: ∀ {t:Ty} {x:t.D} {us:List Value},All2 (SVRel0 w μ ok) (enc t true x) us→All2 (SVRel0 w μ (fun _=>ok true)) (enc t true x) us:=by
    intro t
    induction t with
    |int k=>intro x us hh;cases hh with|cons h1 h2=>cases h2;exact .cons h1 .nil
    |bool=>intro x us hh;cases hh with|cons h1 h2=>cases h2;exact .cons h1 .nil
    |str=>intro x us hh;cases hh with|cons h1 h2=>cases h2;exact .cons h1 .nil
    |unit=>intro x us hh;cases hh;exact .nil
    |sl t _=>intro x us hh;cases hh with|cons h1 h2=>cases h2;exact .cons h1 .nil
    |pair a b iha ihb=>
     intro x us hh
     obtain⟨u,v,rfl,h1,h2⟩:=hh.split
     exact(iha h1).append (ihb h2)
   simp only[capVal]at*
   split at hcv
   ·rename_i y hy
    have h1:All2 (SVRel0 w μ ok) (enc t true x) [v]:=by rw[hy];exact .cons hcv .nil
    have h2:=hcell h1
    rw[hy]at h2
    cases h2 with
    |cons h3 _=>exact h3
   ·obtain⟨us,e,hh⟩:=hcv
    exact⟨us,e,hcell hh⟩
 |_=>exact h
theorem AVRel.fresh {x:AV} {v:Value} (hf:x.fresh=true) (h:AVRel w μ ok x v):AVRel w μ (fun _=>ok true) x v:=by
 cases x with
 |one x=>
  by_cases hj:x= .junk
  ·subst hj;trivial
  ·rw[AVRel.eq1 hj]at h⊢;exact h.fresh hf
 |agg cs=>obtain⟨vs,e,hh⟩:=h;exact⟨vs,e,hh.imp_mem fun y v hy hyv=>hyv.fresh (List.all_eq_true.1 hf y hy)⟩
 |tup l=>
  obtain⟨vs,e,hh⟩:=h
  refine⟨vs,e,hh.imp_mem fun p v hp hpv=> ?_⟩
  obtain⟨f,cs⟩:=p
  have hp':cs.all SV.fresh=true:=List.all_eq_true.1 hf _ hp
  cases f with
  |true=>obtain⟨us,e,hu⟩:=hpv;exact⟨us,e,hu.imp_mem fun y v hy hyv=>hyv.fresh (List.all_eq_true.1 hp' y hy)⟩
  |false=>obtain⟨y,e,hy⟩:=hpv;subst e;exact⟨y,rfl,hy.fresh (List.all_eq_true.1 hp' y (by simp))⟩
 |own cs=>exact h.elim
 |arr f t xs=>exact h.elim
 |mapO f kt vt es=>exact h.elim
 |gho o=>exact h.elim
end
theorem isRef_of_refers {x:SV} {d:Nat} (h:x.refers d=true):x.isRef=true:=by
 cases x<;>first|rfl|(simp [SV.refers]at h;done)|skip
 rename_i f caps
 obtain⟨c,hc,hd⟩:=List.any_eq_true.1 h
 refine List.any_eq_true.2 ⟨c,hc, ?_⟩
 cases c<;>first|rfl|cases hd
theorem AV.isRef_of_refers {x:AV} {d:Nat} (h:x.refers d=true):x.isRef=true:=by
 cases x with
 |one v=>exact AM.isRef_of_refers h
 |agg cs=>obtain⟨c,hc,hd⟩:=List.any_eq_true.1 h;exact List.any_eq_true.2 ⟨c,hc,AM.isRef_of_refers hd⟩
 |tup l=>
  obtain⟨p,hp,hd⟩:=List.any_eq_true.1 h
  obtain⟨c,hc,hd⟩:=List.any_eq_true.1 hd
  exact List.any_eq_true.2 ⟨p,hp,List.any_eq_true.2 ⟨c,hc,AM.isRef_of_refers hd⟩⟩
 |own cs=>obtain⟨c,hc,hd⟩:=List.any_eq_true.1 h;exact List.any_eq_true.2 ⟨c,hc,AM.isRef_of_refers hd⟩
 |arr f t xs=>cases h
 |mapO f kt vt es=>cases h
 |gho o=>
  cases o with
  |own cs=>obtain⟨c,hc,hd⟩:=List.any_eq_true.1 h;exact List.any_eq_true.2 ⟨c,hc,AM.isRef_of_refers hd⟩
  |_=>cases h
section
variable {P:Program} {mine:Cx} {w0:World} {st:St} {a:Act} {w:World} {μ:Locs} {ok:OK} {tb:Tab} {Γ:Orc}
theorem Fr.trans {m:Nat→Prop} {w1:World} (h:Fr m w0 w) (k:Fr none1 w w1):Fr m w0 w1:=
 ⟨k.os.trans h.os,k.tape.trans h.tape,k.output.trans h.output,Nat.le_trans h.size k.size,fun i hi hm=>(k.block i (Nat.lt_of_lt_of_le hi h.size) id).trans (h.block i hi hm)⟩
theorem Facts.back (F:Facts mine w0 st a.tmps w μ ok) {okA:Nat→Prop} {w1:World} {r:AV} {v:Value} (hfr:Fr none1 w w1) (hnr:r.isRef=false)
 (hA:(∀b,okA b→ok false b)∨r.fresh=true) (h:ResRel w okA w1 r v): ∃ok1,Facts mine w0 st a.tmps w1 μ ok1∧NewRel mine w0 st w1 μ ok1 r v∧Grow w ok w1 ok1 r v:=by
 have hμ: ∀s,r.refers s=true→μ s=μ0 s:=fun s hs=>by rw[AV.isRef_of_refers hs]at hnr;cases hnr
 have main: ∀ok':OK,(∀fr b,ok' fr b→(w.heap.size≤b∧b<w1.heap.size)∨(fr=false∧ok false b))→(∀b,ok' true b→ok' false b)→
  ResCore w w1 ok' r v→ ∃ok1,Facts mine w0 st a.tmps w1 μ ok1∧NewRel mine w0 st w1 μ ok1 r v∧Grow w ok w1 ok1 r v:=by
  intro ok' h1 h2 h3
  have hsz:=F.fr.size
  have hno: ∀i b,(st.ow i).isOwner=true→(μ i).b=some b→ ¬(ok false b∨ok' false b):=by
   intro i b hi hb hh
   have:=F.ownB i b hi hb
   rcases hh with hh|hh
   ·exact this.2.2 hh
   ·rcases h1 _ _ hh with hh|⟨_,hh⟩
    ·omega
    ·exact this.2.2 hh
  have F1:Facts mine w0 st a.tmps w1 μ (fun fr b=>ok fr b∨ok' fr b):=
   F.step (fun b hb=>hfr.block b (F.okB b hb) id) (fun i b hi hb=>hfr.block b (F.ownB i b hi hb).1 id) hfr.size (fun _ _ h=> .inl h)
     (fun b hb=>by
      rcases hb with hb|hb
      ·exact Nat.lt_of_lt_of_le (F.okB b hb) hfr.size
      ·rcases h1 _ _ hb with hh|⟨_,hh⟩
       ·exact hh.2
       ·exact Nat.lt_of_lt_of_le (F.okB b hh) hfr.size)
     (fun b hb=>hb.elim (fun h=> .inl (F.okT b h)) (fun h=> .inr (h2 b h)))
     (fun b hb=>by
      rcases hb with hb|hb
      ·exact F.okF b hb
      ·rcases h1 _ _ hb with hh|⟨hh,_⟩
       ·exact Nat.le_trans hsz hh.1
       ·cases hh)
     hno
     ⟨fun b hb=>by
      rcases hb with hb|hb
      ·exact F.okS.old b hb
      ·rcases h1 _ _ hb with hh|⟨_,hh⟩
       ·exact .inl (Nat.le_trans hsz hh.1)
       ·exact F.okS.old b hh,F.okS.glob,F.okS.gm⟩
     (F.fr.trans hfr)
  refine⟨_,F1, ?_,⟨hfr,fun _ _ h=> .inl h,fun f b hb=> ?_,fun ho b hb=> ?_⟩⟩
  case refine_2=>
   rcases hb with hb|hb
   ·exact .inl hb
   ·rcases h1 _ _ hb with hh|⟨rfl,hh⟩
    ·exact .inr hh.1
    ·exact .inl hh
  case refine_3=>
   cases r with
   |own cs=>
    obtain⟨b',c,E,rfl,_,_,e4,_⟩:=h3
    rcases hb with hb|⟨n,c,hb⟩|hb
    ·simp at hb;subst hb;exact e4
    ·cases hb
    ·cases hb
   |mapO f kt vt es=>
    obtain⟨b',rfl,_,e4,_⟩:=h3
    rcases hb with hb|⟨n,c,hb⟩|hb
    ·cases hb
    ·cases hb
    ·simp at hb;subst hb;exact e4
   |arr f t xs=>
    obtain⟨l,rfl,_,e3⟩:=h3
    rcases hb with hb|⟨n,c,hb⟩|hb
    ·cases hb
    rotate_left
    ·unfold slv at hb;cases hb
    ·refine(e3 b ?_).1
     unfold slv at hb
     cases hl:l.b with
     |none=>rw[hl]at hb;simp at hb
     |some b'=>rw[hl]at hb;simp at hb;rw[hb.1]
   |_=>cases ho
  have fresh: ∀b,w.heap.size≤b→b<w1.heap.size→ ¬ok' false b→FreshB mine w0 st w1 μ (fun fr b=>ok fr b∨ok' fr b) b:=by
   intro b g1 g2 g3
   refine⟨g2,.inl (Nat.le_trans hsz g1),fun hh=> ?_,fun i hi hb=> ?_⟩
   ·rcases hh with hh|hh
    ·have:=F.okB b hh;omega
    ·exact g3 hh
   ·have:=(F.ownB i b hi hb).1;omega
  cases r with
  |own cs=>
   obtain⟨b,c,E,e1,e2,e3,e4,e5,e6⟩:=h3
   refine⟨b,c,E,e1,e2,e3.imp_mem fun y v hy hyv=>hyv.mono (fun _ _ _=>rfl) (fun _ _ h=> .inr h) fun s hs=>hμ s (List.any_eq_true.2 ⟨y,hy,hs⟩),fresh b e4 e5 e6⟩
  |arr f t xs=>
   obtain⟨l,e1,⟨g1,g2,g3,g4⟩,e3⟩:=h3
   refine⟨l,e1,⟨g1,g2,g3, ?_⟩,fun b hb=>fresh b (e3 b hb).1 (e3 b hb).2.1 (e3 b hb).2.2⟩
   rcases g4 with g4|⟨b,c,E,k1,k2,k3,k4⟩
   ·exact .inl g4
   ·refine .inr ⟨b,c,E,k1,k2,k3,fun j hj=> ?_⟩
    obtain⟨cs,t1,t2⟩:=k4 j hj
    exact⟨cs,TRel.mono (fun _ _=>rfl) (fun _ h=> .inr h) t1,t2⟩
  |mapO f kt vt es=>
   obtain⟨b,e1,e2,e4,e5,e6⟩:=h3
   exact⟨b,e1,e2.mono (fun _ _=>rfl) (fun _ h=> .inr h) rfl,fresh b e4 e5 e6⟩
  |gho o=>exact h3.elim
  |one x=>exact AVRel.mono (x:= .one x) (fun _ _ _=>rfl) (fun _ _ h=> .inr h) hμ h3
  |agg cs=>exact AVRel.mono (x:= .agg cs) (fun _ _ _=>rfl) (fun _ _ h=> .inr h) hμ h3
  |tup l=>exact AVRel.mono (x:= .tup l) (fun _ _ _=>rfl) (fun _ _ h=> .inr h) hμ h3
 obtain⟨ok',h1,h2,h3⟩:=h
 rcases hA with hA|hA
 ·exact main ok' (fun fr b hb=>(h1 fr b hb).imp id (fun h=>⟨h.1,hA b h.2⟩)) h2 h3
 ·refine main (fun _=>ok' true) (fun fr b hb=> ?_) (fun _ h=>h) ?_
  ·rcases h1 _ _ hb with h|⟨h,_⟩
   ·exact .inl h
   ·cases h
  ·cases r with
   |own cs=>
    obtain⟨b,c,E,e1,e2,e3,e4,e5,e6⟩:=h3
    exact⟨b,c,E,e1,e2,e3.imp_mem fun y v hy hyv=>hyv.fresh (List.all_eq_true.1 hA y hy),e4,e5,fun h=>e6 (h2 b h)⟩
   |arr f t xs=>
    obtain rfl:f=true:=hA
    obtain⟨l,e1,e2,e3⟩:=h3
    exact⟨l,e1,e2,fun b hb=>⟨(e3 b hb).1,(e3 b hb).2.1,fun h=>(e3 b hb).2.2 (h2 b h)⟩⟩
   |mapO f kt vt es=>
    obtain rfl:f=true:=hA
    obtain⟨b,e1,e2,e4,e5,e6⟩:=h3
    exact⟨b,e1,e2,e4,e5,fun h=>e6 (h2 b h)⟩
   |gho o=>exact h3.elim
   |one x=>exact AVRel.fresh (x:= .one x) hA h3
   |agg cs=>exact AVRel.fresh (x:= .agg cs) hA h3
   |tup l=>exact AVRel.fresh (x:= .tup l) hA h3
theorem all2_rd (F:Facts mine w0 st a.tmps w μ ok): ∀l:List Operand,All2 (AVRel w μ ok) (l.map (rd st)) (l.map a.eval):=by
 intro l
 induction l with
 |nil=>exact .nil
 |cons x l ih=>exact .cons (rd_rel F x) ih
theorem call_sound (hΓ:OrcFit P Γ mine) (F:Facts mine w0 st a.tmps w μ ok) {o:Oper} {f:Operand} {args:Array Operand} {ts:Array TypeId} (ho:o.op= .call { callee:= .value f,args,argTypes:=ts}) {v:AV}
 (h:evCall Γ st (rd st f) (args.toList.map (rd st))=some (true,v)) {next:Act→World→Prop} {Q:Exit→Act→World→Prop}
 (hn: ∀w1 ok1 x,Facts mine w0 st a.tmps w1 μ ok1→NewRel mine w0 st w1 μ ok1 v x→Grow w ok w1 ok1 v x→next (a.put o.dst x) w1):o.wp P a w next Q:=by
 unfold evCall at h
 split at h
 ·rename_i g caps hf
  split at h
  ·rename_i xs hx
   split at h
   ·rename_i g' r hr
    cases hc:(!r.isRef&&(r.fresh|| !((args.toList.map (rd st)++caps.map capVal).any AV.isRef)))with
    |false=>simp only[hc,cond_false]at h;cases h
    |true=>
     simp only[hc,cond_true,Option.some.injEq,Prod.mk.injEq]at h
     obtain⟨rfl,rfl⟩:=h
     simp only[Bool.and_eq_true,Bool.or_eq_true,Bool.not_eq_true']at hc
     obtain⟨hcall,hgood⟩:=hΓ.1.1 g xs r hr
     obtain⟨vs,hfe,hcaps⟩:=rd_one F hf (by simp)
     have hargs:All2 (AVRel w μ ok) (args.toList.map (rd st)++caps.map capVal) (args.toList.map a.eval++vs):=
      (all2_rd F _).append (hcaps.map_left _ fun c v h=>capVal_rel h)
     obtain⟨okA,hA1,hA2,hA3,hA4⟩: ∃okA:Nat→Prop,(∀b,ok false b→okA b)∧(∀b,okA b→b<w.heap.size)∧((args.toList.map (rd st)++caps.map capVal).any AV.isRef=true→ ∀b,b<w.heap.size→okA b)∧
      ((∀b,okA b→ok false b)∨r.fresh=true):=by
      rcases hc.2 with hc2|hc2
      ·exact⟨fun b=>b<w.heap.size,fun b hb=>F.okB b hb,fun _ h=>h,fun _ _ h=>h,.inr hc2⟩
      ·exact⟨ok false,fun _ h=>h,fun b hb=>F.okB b hb,(fun(hh:(args.toList.map (rd st)++caps.map capVal).any AV.isRef=true)=>absurd hh (by rw[hc2];simp)),.inl fun _ h=>h⟩
     have hxs:=expAs_rel F hA1 hA3 hargs hx
     have hcalls:=hgood w okA _ ⟨hA2,F.glob⟩ hxs
     have hrun:(execOp a.eval o).run P w= .ok (.enter g (args.toList.map a.eval++vs).toArray) w:=by
      unfold execOp
      simp only[ho,resolve,hfe,Deferred.ofValue,Sem.run_bind,Sem.run_pure,Result.andThen_ok,invoke]
      have:(#[]++Array.map a.eval args++vs.toArray)=(args.toList.map a.eval++vs).toArray:=by apply Array.ext';simp
      rw[this]
      exact hcall _ _
     unfold Oper.wp
     rw[hrun,Oper.upon_enter]
     refine hcalls.mono fun e w1 hh=> ?_
     obtain⟨v,rfl,hfr,hres⟩:=hh
     obtain⟨ok1,F1,hnew,hgrow⟩:=F.back hfr hc.1 hA4 hres
     exact hn w1 ok1 v F1 hnew hgrow
   ·cases h
  ·cases h
 ·cases h
theorem wp_gives {o:Oper} {r:Sem Value} {v:AV} {next:Act→World→Prop} {Q:Exit→Act→World→Prop} (he: ∀w,(execOp a.eval o).run P w=(do pure (Next.value (←r)):Sem Next).run P w)
 (h:Gives P mine w0 st a w μ ok r v) (hn: ∀w1 ok1 x,Facts mine w0 st a.tmps w1 μ ok1→NewRel mine w0 st w1 μ ok1 v x→Grow w ok w1 ok1 v x→next (a.put o.dst x) w1):o.wp P a w next Q:=by
 obtain⟨x,w1,ok1,hr,F1,hv,hg⟩:=h
 unfold Oper.wp
 rw[he]
 simp only[Sem.run_bind,hr,Result.andThen_ok,Sem.run_pure,Oper.upon_value]
 exact hn w1 ok1 x F1 hv hg
theorem opt_rel (F:Facts mine w0 st a.tmps w μ ok) (x:Option Operand):OptRel w μ ok (x.map (rd st)) (x.map a.eval):=by
 cases x with
 |none=>trivial
 |some x=>exact rd_rel F x
theorem parts_rel (F:Facts mine w0 st a.tmps w μ ok) (parts:Array (Nat×Operand)):PartsRel w μ ok (parts.toList.map fun p=>(p.1,rd st p.2)) (parts.map fun(i,x)=>(i,a.eval x)).toList:=by
 rw[Array.toList_map]
 have: ∀l:List (Nat×Operand),PartsRel w μ ok (l.map fun p=>(p.1,rd st p.2)) (l.map fun(i,x)=>(i,a.eval x)):=by
  intro l
  induction l with
  |nil=>exact .nil
  |cons p l ih=>exact .cons ⟨rfl,rd_rel F p.2⟩ ih
 exact this _
theorem evMin {b:List TypeId} {x y v:AV} (h:evBuiltin tb st .min b [x,y]=some (true,v)): ∃k m k' n,x= .one (.int k m)∧y= .one (.int k' n)∧ikEq k k'=true∧v= .one (.int k (minI m n)):=by
 cases x<;>try (simp [evBuiltin]at h;done)
 rename_i x
 cases x<;>try (simp [evBuiltin]at h;done)
 rename_i k m
 cases y<;>try (simp [evBuiltin]at h;done)
 rename_i y
 cases y<;>try (simp [evBuiltin]at h;done)
 rename_i k' n
 simp only[evBuiltin]at h
 cases hk:ikEq k k' with
 |false=>simp [hk]at h
 |true=>
  simp only[hk,cond_true,Option.some.injEq,Prod.mk.injEq,true_and]at h
  exact⟨k,m,k',n,rfl,rfl,hk,h.symm⟩
theorem evMax {b:List TypeId} {x y v:AV} (h:evBuiltin tb st .max b [x,y]=some (true,v)): ∃k m k' n,x= .one (.int k m)∧y= .one (.int k' n)∧ikEq k k'=true∧v= .one (.int k (maxI m n)):=by
 cases x<;>try (simp [evBuiltin]at h;done)
 rename_i x
 cases x<;>try (simp [evBuiltin]at h;done)
 rename_i k m
 cases y<;>try (simp [evBuiltin]at h;done)
 rename_i y
 cases y<;>try (simp [evBuiltin]at h;done)
 rename_i k' n
 simp only[evBuiltin]at h
 cases hk:ikEq k k' with
 |false=>simp [hk]at h
 |true=>
  simp only[hk,cond_true,Option.some.injEq,Prod.mk.injEq,true_and]at h
  exact⟨k,m,k',n,rfl,rfl,hk,h.symm⟩
theorem builtin_gives (hP:TabOk P tb) (F:Facts mine w0 st a.tmps w μ ok) {b:Builtin} {ts:Array TypeId} {ty:TypeId} {xs:List AV} {vs:List Value} {v:AV} (hall:All2 (AVRel w μ ok) xs vs)
 (h:evBuiltin tb st b ts.toList xs=some (true,v)): ∃r:Sem Value,(∀cs,builtin b ts ty cs vs.toArray=(do pure (Next.value (←r)):Sem Next))∧Gives P mine w0 st a w μ ok r v:=by
 cases b<;>try (simp only[evBuiltin]at h;cases h;done)
 case len=>
  cases hall with
  |nil=>simp only[evBuiltin]at h;cases h
  | @cons x xv _ _ hx ht=>
    cases ht with
    |cons _ _=>cases x<;>simp only[evBuiltin]at h<;>cases h
    |nil=>
     refine⟨Builtin.len_ ts ty #[xv],fun _=>rfl, ?_⟩
     have:=len_gives hP F (ty:=ty) hx h
     simpa using this
 case min=>
  cases hall with
  |nil=>simp only[evBuiltin]at h;cases h
  | @cons x xv _ _ hx ht=>
    cases ht with
    |nil=>simp only[evBuiltin]at h;(try split at h)<;>simp_all
    | @cons y yv _ _ hy ht=>
      refine⟨Builtin.min_ ts ty (xv::yv::_).toArray,fun _=>rfl, ?_⟩
      cases ht with
      |cons _ _=>simp [evBuiltin]at h
      |nil=>
       obtain⟨k,m,k',n,rfl,rfl,hk,rfl⟩:=evMin h
       exact min_gives F hx hy hk
 case max=>
  cases hall with
  |nil=>simp only[evBuiltin]at h;cases h
  | @cons x xv _ _ hx ht=>
    cases ht with
    |nil=>simp only[evBuiltin]at h;(try split at h)<;>simp_all
    | @cons y yv _ _ hy ht=>
      refine⟨Builtin.max_ ts ty (xv::yv::_).toArray,fun _=>rfl, ?_⟩
      cases ht with
      |cons _ _=>simp [evBuiltin]at h
      |nil=>
       obtain⟨k,m,k',n,rfl,rfl,hk,rfl⟩:=evMax h
       exact max_gives F hx hy hk
structure Src (w:World) (okf:Nat→Prop) (t:Ty) (ys:List t.D) (A:Option Addr) (news:List Value):Prop where
 len:news.length=ys.length*t.size
 one: ∀v∈news,v.oneCell'=true
 nil:A=none→ys=[]
 cells: ∀ad,A=some ad→ ∀j v,news[j]? =some v→w.cell? (ad.add j)=some v
 elems: ∀j (h:j<ys.length),∃cs,TRel w okf t ys[j] cs∧ ∀q (hq:q<cs.length),news[j*t.size+q]? =some cs[q]
theorem flat {okf:Nat→Prop} {t:Ty} {b:Nat}: ∀(ys:List t.D) (o:Nat),(∀j (h:j<ys.length),∃cs,TRel w okf t ys[j] cs∧Cells w b (o+j*t.size) cs)→ ∃news,Src w okf t ys (some ⟨b,o,none⟩) news:=by
 intro ys
 induction ys with
 |nil=>intro o h;exact⟨[],by simp,by simp,by simp,by simp,by simp⟩
 |cons y ys ih=>
  intro o h
  obtain⟨cs0,t0,c0⟩:=h 0 (by simp)
  obtain⟨news,s1,s2,s3,s4,s5⟩:=ih (o+t.size) (fun j hj=>by
   obtain⟨cs,t1,c1⟩:=h (j+1) (by simp;omega)
   refine⟨cs,by simpa using t1, ?_⟩
   have:o+(j+1)*t.size=o+t.size+j*t.size:=by rw[Nat.succ_mul];omega
   rwa [this]at c1)
  have hl0:cs0.length=t.size:=t0.length
  refine⟨cs0++news,by simp [hl0,s1,Nat.succ_mul];omega, ?_,(fun h=>by cases h), ?_, ?_⟩
  ·intro v hv
   rcases List.mem_append.1 hv with hv|hv
   ·exact t0.one v hv
   ·exact s2 v hv
  ·intro ad had j v hj
   cases had
   rw[add_none]
   rcases Nat.lt_or_ge j cs0.length with hlt|hge
   ·rw[List.getElem?_append_left hlt,List.getElem?_eq_getElem hlt]at hj
    cases hj
    simpa using c0 j hlt
   ·rw[List.getElem?_append_right hge]at hj
    have:=s4 _ rfl _ _ hj
    rw[add_none]at this
    rwa [show o+t.size+(j-cs0.length)=o+j by omega]at this
  ·intro j hj
   cases j with
   |zero=>exact⟨cs0,by simpa using t0,fun q hq=>by rw[List.getElem?_append_left (by omega)];simp [hq]⟩
   |succ j=>
    obtain⟨cs,t1,c1⟩:=s5 j (by simpa using hj)
    refine⟨cs,by simpa using t1,fun q hq=> ?_⟩
    rw[List.getElem?_append_right (by rw[Nat.succ_mul];omega),←c1 q hq]
    congr 1
    rw[Nat.succ_mul];omega
theorem src_of_sl {okf:Nat→Prop} {t:Ty} {ys:List t.D} {v:Value} (h:TRel w okf (.sl t) ys [v]): ∃A c news,v= .slice A ys.length c∧Src w okf t ys A news:=by
 obtain⟨A,c,e,h1,h2,h3⟩:=h
 simp only[List.cons.injEq,and_true]at e
 rcases h3 with⟨rfl,rfl,_⟩|⟨b,o,⟨sp,rfl,hsp⟩,_,h3⟩
 ·exact⟨none,c,[],e,by simp,by simp,by simp,by simp,by simp⟩
 ·by_cases hy:ys=[]
  ·subst hy
   exact⟨_,c,[],e,by simp,by simp,by simp,by simp,by simp⟩
  ·obtain rfl:=hsp hy
   obtain⟨news,hs⟩:=flat ys o h3
   exact⟨_,c,news,e,hs⟩
theorem getSl_rel (F:Facts mine w0 st a.tmps w μ ok) {t:Ty} {x:SV} {xv:Value} {g:Bool} {ys:List t.D} (hx:SVRel w μ ok x xv) (h:getSl st t x=some (g,ys)):
 ∃A c news,xv= .slice A ys.length c∧Src w (ok g) t ys A news:=by
 cases x<;>simp only[getSl]at h<;>try (cases h;done)
 ·cases h
  exact⟨none,0,[],hx,by simp,by simp,by simp,by simp,by simp⟩
 ·rename_i fr t' nl xs
  split at h
  ·rename_i zs hc
   obtain⟨rfl,rfl⟩:=castL_eq hc
   cases h
   exact src_of_sl hx.1
  ·cases h
 ·rename_i s n
  split at h
  ·rename_i fr t' xs hs
   split at h
   ·rename_i zs hc
    obtain⟨rfl,rfl⟩:=castL_eq hc
    have hr:=arr_of F hs
    obtain⟨rfl,hm,hb⟩:=hx
    have key: ∀m,m≤xs.length→ ∃news,Src w (ok fr) t' (xs.take m) ((μ s).b.map fun b=>⟨b,0,none⟩) news:=by
     intro m hm
     obtain⟨g1,g2,g3,g4⟩:=hr
     rcases g4 with⟨k1,rfl,_⟩|⟨b,c,E,k1,k2,k3,k4⟩
     ·exact⟨[],by simp,by simp,by simp,by simp,by simp⟩
     ·rw[k1]
      obtain⟨news,hs⟩:=flat (w:=w) (okf:=ok fr) (b:=b) (xs.take m) 0 (fun j hj=>by
       have hj':j<xs.length:=by simp at hj;omega
       obtain⟨cs,t1,t2⟩:=k4 j hj'
       refine⟨cs,by simpa using t1,fun q hq=> ?_⟩
       rw[cell_block k2,Nat.zero_add];exact t2 q hq)
      exact⟨news,hs⟩
    cases n with
    |none=>
     cases h
     obtain⟨news,hs'⟩:=key xs.length (Nat.le_refl _)
     rw[List.take_length]at hs'
     exact⟨_,_,news,by unfold slv;rw[Option.getD_none,hr.1],hs'⟩
    |some m=>
     cases h
     have hml:=hm m rfl
     rw[hr.1]at hml
     obtain⟨news,hs'⟩:=key m hml
     exact⟨_,(μ s).cap,news,by unfold slv;simp [Nat.min_eq_left hml],hs'⟩
   ·cases h
  ·cases h
theorem foldl_push_ofBytes: ∀(l:List Int) (r:ByteArray),l.foldl (fun r n=>r.push (UInt8.ofNat n.toNat)) r=⟨r.data++(l.map fun n=>UInt8.ofNat n.toNat).toArray⟩:=by
 intro l
 induction l with
 |nil=>intro r;simp
 |cons n l ih=>
  intro r
  rw[List.foldl_cons,ih]
  simp [ByteArray.push]
theorem ofBytes_size (l:List Int):(ofBytes l).size=l.length:=by
 show((l.map fun n=>UInt8.ofNat n.toNat).toArray).size=l.length
 simp
theorem bytesToString_run (F:Facts mine w0 st a.tmps w μ ok) {x:SV} {xv:Value} {g:Bool} {ys:List Int} (hx:SVRel w μ ok x xv) (h:getSl st (.int .u8) x=some (g,ys)):
 (Conv.bytesToString xv).run P w= .ok (.string (ofBytes ys)) w∧(ofBytes ys).size≤9223372036854775807:=by
 have hlen:ys.length≤9223372036854775807:=by
  cases x<;>simp only[getSl]at h<;>try (cases h;done)
  ·cases h;simp
  ·rename_i fr t' nl xs
   split at h
   ·rename_i zs hc
    obtain⟨rfl,rfl⟩:=castL_eq hc
    cases h
    obtain⟨A,c,e,h1,h2,_⟩:=hx.1
    show xs.length≤_
    omega
   ·cases h
  ·rename_i s n
   split at h
   ·rename_i fr t' xs hs
    split at h
    ·rename_i zs hc
     obtain⟨rfl,rfl⟩:=castL_eq hc
     have hr:=arr_of F hs
     have hb:=hr.1
     have hb2:=hr.2.1
     have hb3:=hr.2.2.1
     cases n with
     |none=>cases h;show xs.length≤_;omega
     |some m=>cases h;show(xs.take m).length≤_;simp;omega
    ·cases h
   ·cases h
 obtain⟨A,c,news,rfl,src⟩:=getSl_rel F hx h
 refine⟨?_,by rw[ofBytes_size];exact hlen⟩
 have hnews:news=ys.map (Value.int .u8):=by
  apply List.ext_getElem?
  intro j
  rcases Nat.lt_or_ge j ys.length with hj|hj
  ·obtain⟨cs,t1,t2⟩:=src.elems j hj
   obtain⟨rfl,_⟩:=(t1:cs=[Value.int .u8 ys[j]]∧_)
   have:=t2 0 (by simp)
   rw[show j*(Ty.int IntKind.u8).size+0=j by simp [Ty.size]]at this
   rw[this]
   simp [hj]
  ·have hl:=src.len
   rw[List.getElem?_eq_none (by rw[hl];simp [Ty.size];omega),List.getElem?_eq_none (by simp;omega)]
 cases A with
 |none=>
  have:=src.nil rfl
  subst this
  simp [Conv.bytesToString,ofBytes]
  rfl
 |some ad=>
  subst hnews
  have hl:=run_loadCells_list (P:=P) w ad (ys.map (Value.int .u8)) (src.cells ad rfl)
  rw[List.length_map]at hl
  rw[run_bytesToString w ad ys.length c ys hl,foldl_push_ofBytes]
  simp [ofBytes]
theorem ev_sound (hP:TabOk P tb) (hΓ:OrcFit P Γ mine) (F:Facts mine w0 st a.tmps w μ ok) {o:Oper} {v:AV} (h:ev tb Γ st o.op=some (true,v)) {next:Act→World→Prop} {Q:Exit→Act→World→Prop}
 (hn: ∀w1 ok1 x,Facts mine w0 st a.tmps w1 μ ok1→NewRel mine w0 st w1 μ ok1 v x→Grow w ok w1 ok1 v x→next (a.put o.dst x) w1):o.wp P a w next Q:=by
 cases ho:o.op with
 |move x=>
  rw[ho]at h;cases h
  exact wp_gives (r:=pure (a.eval x)) (fun w=>by simp [execOp,ho]) (Gives.pure F (by simp) (rd_notOwner st x) (rd_rel F x)) hn
 |assign x=>
  rw[ho]at h;cases h
  exact wp_gives (r:=pure (a.eval x)) (fun w=>by simp [execOp,ho]) (Gives.pure F (by simp) (rd_notOwner st x) (rd_rel F x)) hn
 |pick c x y=>
  rw[ho]at h
  simp only[ev]at h
  refine wp_gives (r:=do pure (if ←asBool (a.eval c)then a.eval x else a.eval y)) (fun w=>by simp [execOp,ho]) ?_ hn
  split at h
  ·rename_i b p q h1 h2 h3
   cases h
   have e1:=rd_bool F h1
   have e2:=rd_bool F h2
   have e3:=rd_bool F h3
   refine Gives.pure F (x:= .bool (cond b p q)) ?_ rfl rfl
   cases b<;>simp [e1,e2,e3,asBool]
  ·rename_i h1 _
   cases h
   have e1:=rd_bool F h1
   exact Gives.pure F (by simp [e1,asBool]) (rd_notOwner st x) (rd_rel F x)
  ·rename_i h1 _
   cases h
   have e1:=rd_bool F h1
   exact Gives.pure F (by simp [e1,asBool]) (rd_notOwner st y) (rd_rel F y)
  ·cases h
 |alloc T=>
  rw[ho]at h
  simp only[ev]at h
  split at h
  ·rename_i ti hT
   cases h
   exact wp_gives (fun w=>by simp only[execOp,ho]) (alloc_gives hP F hT) hn
  ·cases h
 |box T x=>
  rw[ho]at h
  simp only[ev]at h
  split at h
  ·rename_i cs hc
   cases h
   exact wp_gives (fun w=>by simp only[execOp,ho]) (box_gives (T:=T) F (rd_rel F x) hc) hn
  ·cases h
 |build T parts=>
  rw[ho]at h
  exact wp_gives (fun w=>by simp only[execOp,ho]) (build_gives hP F (parts_rel F parts) h) hn
 |buildSlice T n parts=>
  rw[ho]at h
  exact wp_gives (fun w=>by simp only[execOp,ho]) (lit_gives hP F (parts_rel F parts) h) hn
 |load T p=>
  rw[ho]at h
  exact wp_gives (fun w=>by simp only[execOp,ho]) (load_gives hP F (rd_rel F p) h) hn
 |nilCheck x=>
  rw[ho]at h
  simp only[ev]at h
  have hr:=rd_rel F x
  refine wp_gives (r:=pure (a.eval x)) (fun w=> ?_) ?_ hn
  ·split at h
   ·rename_i s o' hx
    obtain⟨b,_,e⟩:=rd_one F hx (by simp)
    simp [execOp,ho,e]
   ·rename_i f t z o' hx
    obtain⟨b,o'',cs,e,_⟩:=rd_one F hx (by simp)
    simp [execOp,ho,e]
   ·rename_i s z i o' hx
    obtain⟨b,_,e,_⟩:=rd_one F hx (by simp)
    simp [execOp,ho,e]
   ·rename_i f c hx
    obtain⟨vs,e,_⟩:=rd_one F hx (by simp)
    simp [execOp,ho,e]
   ·cases h
  ·have:rd st x=v∧v.isOwner=false:=by
    split at h<;>first|(cases h;exact⟨by assumption,rfl⟩)|cases h
   exact Gives.pure F (x:=a.eval x) (by simp) this.2 (by rw[←this.1];exact hr)
 |binOp op T x y ty=>
  rw[ho]at h
  obtain⟨z,h1,h2,h3⟩:=evBin_rel hP (ox:=x) (oy:=y) (rd_rel F x) (rd_rel F y) h
  exact wp_gives (r:=do eqGuard op T x y (a.eval x) (a.eval y);binOp op T (a.eval x) (a.eval y)) (fun w=>by simp only[execOp,ho]) (Gives.pure F h1 h2 h3) hn
 |unOp op T x=>
  rw[ho]at h
  refine wp_gives (r:=Op.unary op (a.eval x)) (fun w=>by simp only[execOp,ho]) ?_ hn
  simp only[ev,evUn]at h
  split at h
  ·rename_i b hx
   cases h
   have e:=rd_bool F hx
   exact Gives.pure F (x:= .bool (!b)) (by simp [e,Op.unary]) rfl rfl
  ·rename_i k n hx
   cases h
   have e:=(rd_int F hx).1
   exact Gives.pure F (x:= .int k (k.wrap (0-n))) (by simp [e,Op.unary,Op.intArith]) rfl ⟨rfl,wrap_has _ _⟩
  ·cases h
 |convert src dst x=>
  rw[ho]at h
  refine wp_gives (r:=convert src dst (a.eval x)) (fun w=>by simp only[execOp,ho]) ?_ hn
  simp only[ev]at h
  split at h
  ·rename_i k0 n0 k' n1 k n h1 h2 hx
   cases h
   have e:=(rd_int F hx).1
   obtain⟨i,d,zv,_,_,g3,_,_,_,_,g7,_⟩:=hP src _ h1
   obtain⟨i',d',zv',_,_,g3',_,_,_,_,g7',_⟩:=hP dst _ h2
   rw[g7 _ _ rfl]at g3
   rw[g7' _ _ rfl]at g3'
   exact Gives.pure F (x:= .int k' (k'.wrap n)) (by simp [e,convert,underlying,g3,g3',Conv.intToInt]) rfl ⟨rfl,wrap_has _ _⟩
  ·rename_i e0 b0 z0 v h1 h2 hx
   split at h
   ·rename_i n9 g ys h3 hg
    cases h
    have hj:v≠ .junk:=by intro e;subst e;cases hg
    have hv:=one_of hj (hx▸rd_rel F x)
    obtain⟨i,ei,ze,_,_,_,hu,hei,hes,_,hez,hze,_⟩:=hP src _ h1
    obtain⟨i',d',zv',_,_,g3',_,_,_,_,_,_,g7'⟩:=hP dst _ h2
    rw[g7' _ rfl]at g3'
    obtain⟨e1,e2⟩:=bytesToString_run (P:=P) F hv hg
    obtain⟨i9,d9,zv9,_,_,hue,_,_,_,_,g79,_⟩:=hP e0 _ h3
    rw[g79 _ _ rfl]at hue
    obtain⟨A,c,_,hxv,_⟩:=getSl_rel F hv hg
    rw[hxv]at e1
    exact Gives.pure F (x:= .string (ofBytes ys)) (by rw[hxv,run_convert_bytes_string w src dst e0 A ys.length c hu hue g3',e1]) rfl ⟨rfl,e2⟩
   ·cases h
  ·cases h
 |makeFunc fn first captured=>
  rw[ho]at h
  simp only[ev]at h
  split at h
  ·rename_i f cs h1 h2
   cases h
   have hcaps:=capsOf_rel F.okT (all2_rd F captured.toList) h2
   have hf:first= #[]:=Array.toList_eq_nil_iff.1 h1
   refine wp_gives (r:=Instr.makeFunc (.func f) (first.map a.eval) (captured.map a.eval)) (fun w=>by simp only[execOp,ho]) (Gives.pure F (x:= .func (.func f) #[] (captured.map a.eval)) ?_ rfl ?_) hn
   ·simp [Instr.makeFunc,hf]
   ·have e:captured.map a.eval=(captured.toList.map a.eval).toArray:=by apply Array.ext';simp
    rw[e]
    exact⟨captured.toList.map a.eval,rfl,hcaps⟩
  ·cases h
 |makeSlice T l c=>
  rw[ho]at h
  exact wp_gives (fun w=>by simp only[execOp,ho]) (make_gives hP F (rd_rel F l) (rd_rel F c) h) hn
 |makeMap T r=>
  rw[ho]at h
  simp only[ev]at h
  have main: ∀kt vt,Tab.get tb T=some (.map kt vt)→v= .mapO true kt vt []→(∀v,r.map a.eval=some v→ ∃k n,v= .int k n)→o.wp P a w next Q:=by
   intro kt vt hT hv hr
   subst hv
   exact wp_gives (fun w=>by simp only[execOp,ho]) (makeMap_gives hP F hT hr) hn
  split at h
  ·rename_i kt vt hT hr
   cases h
   refine main kt vt hT rfl fun v hv=> ?_
   cases r with
   |none=>cases hv
   |some x=>cases hr
  ·rename_i kt vt k n hT hr
   cases h
   refine main kt vt hT rfl fun v hv=> ?_
   cases r with
   |none=>cases hv
   |some x=>
    simp only[Option.map_some,Option.some.injEq]at hr hv
    exact⟨k,n,by rw[←hv];exact(rd_int F hr).1⟩
  ·cases h
 |lookup T m k c=>
  rw[ho]at h
  exact wp_gives (fun w=>by simp only[execOp,ho]) (lookup_gives hP F (rd_rel F m) (rd_rel F k) h) hn
 |slice T x lo hi mx=>
  rw[ho]at h
  refine wp_gives (r:=Instr.sliceAt T (a.eval x) (lo.map a.eval) (hi.map a.eval) (mx.map a.eval)) (fun w=>by simp only[execOp,ho]) (slice_gives hP F (rd_rel F x) (opt_rel F lo) (opt_rel F hi) ?_ h) hn
  intro hm;cases mx with
  |none=>rfl
  |some m=>cases hm
 |fieldAddr T x f=>
  rw[ho]at h
  exact wp_gives (fun w=>by simp only[execOp,ho]) (fieldAddr_gives hP F (rd_rel F x) h) hn
 |field T x f=>
  rw[ho]at h
  exact wp_gives (fun w=>by simp only[execOp,ho]) (field_gives hP F (rd_rel F x) h) hn
 |indexAddr T x i=>
  rw[ho]at h
  exact wp_gives (fun w=>by simp only[execOp,ho]) (indexAddr_gives hP F (rd_rel F x) (rd_rel F i) h) hn
 |index T x i=>
  rw[ho]at h
  exact wp_gives (fun w=>by simp only[execOp,ho]) (index_gives hP F (rd_rel F x) (rd_rel F i) h) hn
 |extract x j=>
  rw[ho]at h
  simp only[ev]at h
  split at h
  ·rename_i l hx
   split at h
   ·rename_i f cs hl
    split at h
    ·rename_i v' hv
     cases h
     have hr:=rd_rel F x
     rw[hx]at hr
     exact wp_gives (fun w=>by simp only[execOp,ho]) (extract_gives F hr hl hv) hn
    ·cases h
   ·cases h
  ·cases h
 |call c=>
  rw[ho]at h
  obtain⟨callee,args,ts⟩:=c
  simp only[ev]at h
  cases callee with
  |value f=>exact call_sound hΓ F ho h hn
  |invoke r n=>cases h
  |builtin b=>
   simp only at h
   have hall:=all2_rd F args.toList
   have hargs:args.map a.eval=(args.toList.map a.eval).toArray:=by apply Array.ext';simp
   refine Exists.elim (builtin_gives hP F (ty:=o.type) hall h) fun r ⟨hr,hg⟩=>wp_gives (r:=r) (fun w=> ?_) hg hn
   simp only[execOp,ho,resolve,Sem.run_bind,Sem.run_pure,Result.andThen_ok,invoke]
   rw[hargs,hr]
   simp
 |_=>rw[ho]at h;cases h
end
section
variable {P:Program} {mine:Cx} {w0:World} {st:St} {a:Act} {w:World} {μ:Locs} {ok:OK} {tb:Tab}
theorem Facts.store {tm:Array Value} (F:Facts mine w0 st tm w μ ok) {s b:Nat} (hs:(st.ow s).isOwner=true) (hb:(μ s).b=some b) {w1:World}
 (hother: ∀k,k≠b→w1.heap[k]? =w.heap[k]?) (hsz:w1.heap.size=w.heap.size) (hos:w1.os=w.os) (htape:w1.tape=w.tape) (hout:w1.output=w.output)
 {v':AV} (ho':v'.isOwner=true) (hslot:(st.at s).isGho=false→SlotRel w1 μ ok s v' (tm.getD s undef)) (hown:OwnRel w1 μ ok s v'):Facts mine w0 (St.upd st s v') tm w1 μ ok:=by
 have hB:=F.ownB s b hs hb
 have hok: ∀fr k,ok fr k→w1.heap[k]? =w.heap[k]? :=fun fr k hk=>hother k fun e=>hB.2.2 (e▸F.ok_any hk)
 have hlen:s<st.length:=by
  rcases Nat.lt_or_ge s st.length with h|h
  ·exact h
  ·rw[St.ow_out _ _ h]at hs;cases hs
 have hat: ∀i,i≠s→St.at (St.upd st s v') i=st.at i:=fun i hi=>St.at_upd_ne st v' (Ne.symm hi)
 have how: ∀i,i≠s→St.ow (St.upd st s v') i=st.ow i:=fun i hi=>St.ow_upd_ne st v' (Ne.symm hi)
 have hows:St.ow (St.upd st s v') s=v':=St.ow_upd_self st s (.inl ho') hlen
 have hgi: ∀i,(St.at (St.upd st s v') i).isGho=(st.at i).isGho:=fun i=>St.isGho_upd st s i (AV.isGho_owner ho')
 have hown': ∀i,(St.ow (St.upd st s v') i).isOwner=true→(st.ow i).isOwner=true:=by
  intro i hi
  by_cases e:i=s
  ·subst e;exact hs
  ·rwa [how i e]at hi
 refine⟨fun i=> ?_,fun i=> ?_,F.size,fun i h1 h2=>by rw[hgi];exact F.gho i h1 (by rwa [St.length_upd]at h2),fun i h1=>by rw[hgi];exact F.real i h1,by rw[St.length_upd];exact F.len,F.pin,
  fun i k hi hk=> ?_,fun i j k hi hj=>F.inj i j k (hown' i hi) (hown' j hj),fun k hk=>by rw[hsz];exact F.okB k hk,F.okT,F.okF,F.okS, ?_⟩
 ·by_cases e:i=s
  ·subst e
   unfold St.upd
   rw[St.at_set_self _ _ _ hlen]
   cases hg:(st.at i).isGho with
   |true=>
    cases hsi:st.at i with
    |gho o=>trivial
    |_=>rw[hsi]at hg;cases hg
   |false=>
    have:(st.at i).re v'=v':=by cases hsi:st.at i<;>first|rfl|(rw[hsi]at hg;cases hg)
    rw[this];exact hslot hg
  ·rw[hat i e]
   cases hg:(st.at i).isGho with
   |true=>
    cases hsi:st.at i with
    |gho o=>trivial
    |_=>rw[hsi]at hg;cases hg
   |false=>exact(F.slots i).mono hok (fun _ _ h=>h) (fun _ _=>rfl) (fun _=>rfl)
 ·by_cases e:i=s
  ·subst e;rw[hows];exact hown
  ·rw[how i e]
   exact(F.owns i).mono hok (fun _ _ h=>h) (fun _ _=>rfl) (fun _=>rfl) (fun k hi hk=>hother k fun e'=>e (F.inj i s k hi hs hk (e'▸hb)))
 ·have:=F.ownB i k (hown' i hi) hk
  exact⟨by rw[hsz];exact this.1,this.2⟩
 ·refine⟨hos.trans F.fr.os,htape.trans F.fr.tape,hout.trans F.fr.output,by rw[hsz];exact F.fr.size,fun k hk hm=> ?_⟩
  rw[hother k fun e=> ?_]
  ·exact F.fr.block k hk hm
  ·subst e
   rcases hB.2.1 with h|h
   ·omega
   ·exact hm h
theorem ow_at {s:Nat} {v:AV} (h:st.ow s=v) (hg:(st.at s).isGho=false):st.at s=v:=by
 unfold St.ow at h
 rwa [AV.un_id hg]at h
theorem run_storeCells (b:Nat) (E:TypeId): ∀(vs:List Value) (o i:Nat) (w:World) (c:Array Value),w.heap[b]? =some (.cells c E (0,0))→o+i+vs.length≤c.size→(∀v∈vs,v.oneCell'=true)→
 ∃w1 c',(storeCells ⟨b,o,none⟩ vs i).run P w= .ok () w1∧w1.heap[b]? =some (.cells c' E (0,0))∧c'.toList=c.toList.take (o+i)++vs++c.toList.drop (o+i+vs.length)∧
  (∀k,k≠b→w1.heap[k]? =w.heap[k]?)∧w1.heap.size=w.heap.size∧w1.os=w.os∧w1.tape=w.tape∧w1.output=w.output:=by
 intro vs
 induction vs with
 |nil=>intro o i w c h _ _;exact⟨w,c,by simp [storeCells],h,by simp,fun _ _=>rfl,rfl,rfl,rfl,rfl⟩
 |cons v vs ih=>
  intro o i w c h hl h1
  simp only[List.length_cons]at hl
  have hc:w.cell? ⟨b,o+i,none⟩=some c[o+i]:=by rw[cell_block h];simp
  have hf:w.frozen? ⟨b,o+i,none⟩=false:=by
   simp only[World.frozen?,h]
   simp
  have hrun:(store ((⟨b,o,none⟩:Addr).add i) v).run P w= .ok () (w.setCell ⟨b,o+i,none⟩ v):=by
   rw[add_none,run_store P w _ v _ (h1 v (by simp))]
   simp [hc,hf]
  have hh:(w.setCell ⟨b,o+i,none⟩ v).heap[b]? =some (.cells (c.setIfInBounds (o+i) v) E (0,0)):=by
   simp [World.setCell,Array.getElem?_modify,h]
  obtain⟨w1,c',e1,e2,e3,e4,e5,e6,e7,e8⟩:=ih o (i+1) (w.setCell ⟨b,o+i,none⟩ v) (c.setIfInBounds (o+i) v) hh (by simp;omega) (fun u hu=>h1 u (by simp [hu]))
  refine⟨w1,c',by simp only[storeCells,Sem.run_bind,hrun,Result.andThen_ok];exact e1,e2, ?_,fun k hk=> ?_,by rw[e5];simp [World.setCell],e6.trans rfl,e7.trans rfl,e8.trans rfl⟩
  ·rw[e3]
   simp only[Array.toList_setIfInBounds]
   have hl':o+i<c.toList.length:=by simp;omega
   have e:c.toList.set (o+i) v=c.toList.take (o+i)++v::c.toList.drop (o+i+1):=by rw[List.set_eq_take_append_cons_drop,if_pos hl']
   have hlt:(c.toList.take (o+i)).length=o+i:=by simp;omega
   rw[e,show o+(i+1)=o+i+1 by omega]
   have t1: ∀(A D:List Value) (n:Nat),A.length=n→(A++v::D).take (n+1)=A++[v]:=by
    intro A D n hn;subst hn;simp [List.take_append,List.take_of_length_le]
   have t2: ∀(A D:List Value) (n m:Nat),A.length=n→(A++v::D).drop (n+1+m)=D.drop m:=by
    intro A D n m hn;subst hn
    rw[List.drop_append,List.drop_of_length_le (by omega),show A.length+1+m-A.length=m+1 by omega];simp
   rw[t1 _ _ _ hlt,t2 _ _ _ _ hlt,List.drop_drop]
   simp [Nat.add_assoc,Nat.add_comm 1 vs.length]
  ·rw[e4 k hk]
   exact RowKit.Below.heap_setCell _ _ _ _ (by simpa using hk)
theorem run_storeAt (hP:TabOk P tb) {T:TypeId} {ti:TI} (hT:Tab.get tb T=some ti) {b o:Nat} {E:TypeId} {v:Value} {c:Array Value} (hn:v.cells.toList.length=ti.size)
 (h:w.heap[b]? =some (.cells c E (0,0))) (hl:o+v.cells.toList.length≤c.size) (h1: ∀u∈v.cells.toList,u.oneCell'=true):
 ∃w1 c',(Instr.storeAt T (.pointer (some ⟨b,o,none⟩)) v).run P w= .ok () w1∧w1.heap[b]? =some (.cells c' E (0,0))∧c'.toList=c.toList.take o++v.cells.toList++c.toList.drop (o+v.cells.toList.length)∧
  (∀k,k≠b→w1.heap[k]? =w.heap[k]?)∧w1.heap.size=w.heap.size∧w1.os=w.os∧w1.tape=w.tape∧w1.output=w.output:=by
 obtain⟨w1,c',e1,e2,e3,e4⟩:=run_storeCells (P:=P) b E v.cells.toList o 0 w c h (by simpa using hl) h1
 refine⟨w1,c', ?_,e2,by simpa using e3,e4⟩
 have hs:=(hP T ti hT).sizeOf (w:=w)
 unfold Instr.storeAt Instr.sureAddr storeVar
 simp only[Sem.run_bind,Sem.run_pure,Result.andThen_ok,hs]
 rw[if_neg (by simp at hn;simp [hn])]
 simp [e1]
theorem all2_one {cs:List SV} {vs:List Value} (h:All2 (SVRel w μ ok) cs vs): ∀v∈vs,v.oneCell'=true:=by
 induction h with
 |nil=>intro v hv;cases hv
 |cons hx _ ih=>
  intro v hv
  rcases List.mem_cons.1 hv with rfl|hv
  ·exact hx.one
  ·exact ih v hv
theorem splice_rel {cs vs:List SV} {us xs:List Value} {o:Nat} (h:All2 (SVRel w μ ok) cs us) (h':All2 (SVRel w μ ok) vs xs):
 All2 (SVRel w μ ok) (splice cs o vs) (us.take o++xs++us.drop (o+xs.length)):=by
 unfold splice
 rw[h'.length]
 exact((h.take o).append h').append (h.drop _)
theorem getElem?_splice {α:Type} (l vs:List α) (o i:Nat) (h:o+vs.length≤l.length):(l.take o++vs++l.drop (o+vs.length))[i]? =if o≤i∧i<o+vs.length then vs[i-o]? else l[i]? :=by
 simp only[List.append_assoc,List.getElem?_append,List.length_take,List.getElem?_take,List.getElem?_drop]
 have hm:min o l.length=o:=by omega
 rw[hm]
 by_cases h1:i<o
 ·simp [h1,show ¬(o≤i∧i<o+vs.length) by omega]
 ·by_cases h2:i-o<vs.length
  ·simp [h1,h2,show o≤i∧i<o+vs.length by omega]
  ·simp [h1,h2,show ¬(o≤i∧i<o+vs.length) by omega]
   congr 1
   omega
theorem one_inv {x:SV} {vs:List Value} (h:All2 (SVRel w μ ok) [x] vs): ∃u,vs=[u]∧SVRel w μ ok x u:=by
 cases h with
 |cons h t=>cases t;exact⟨_,rfl,h⟩
theorem store_sound (hP:TabOk P tb) (F:Facts mine w0 st a.tmps w μ ok) {T:TypeId} {p v:AV} {pv vv:Value} (hp:AVRel w μ ok p pv) (hv:AVRel w μ ok v vv) {st':St} (h:mdStore tb st T p v=some (true,st')):
 ∃w1,(Instr.storeAt T pv vv).run P w= .ok () w1∧Facts mine w0 st' a.tmps w1 μ ok:=by
 unfold mdStore at h
 split at h
 ·rename_i ti p vs hT hc
  cases hn:Nat.beq vs.length ti.size with
  |false=>simp only[hn,cond_false]at h;cases h
  |true=>
   have hn':vs.length=ti.size:=Nat.eq_of_beq_eq_true hn
   simp only[hn,cond_true]at h
   have hvs:=cellsOf_rel hv hc
   have hlen:vv.cells.toList.length=ti.size:=by rw[←hvs.length];exact hn'
   have hone:=all2_one hvs
   unfold stCells at h
   split at h
   ·
    rename_i s off
    split at h
    ·rename_i cs hs
     cases hb:Nat.ble (off+vs.length) cs.length with
     |false=>simp only[hb,cond_false]at h;cases h
     |true=>
      have hb':off+vs.length≤cs.length:=Nat.le_of_ble_eq_true hb
      simp only[hb,cond_true,Option.some.injEq,Prod.mk.injEq,true_and]at h
      subst h
      obtain⟨b,c,E,k1,k2,k3⟩:=ownCells F hs
      obtain⟨b',k1',rfl⟩:=(hp:SVRel w μ ok (.ptr s off) pv)
      rw[k1]at k1';cases k1'
      have hcl:cs.length=c.size:=by rw[k3.length];simp
      obtain⟨w1,c',e1,e2,e3,e4,e5,e6,e7,e8⟩:=run_storeAt hP hT hlen k2 (o:=off) (by rw[hlen,←hn'];omega) hone
      have hso:(st.ow s).isOwner=true:=by rw[hs];rfl
      have hok: ∀fr k,ok fr k→w1.heap[k]? =w.heap[k]? :=fun fr k hk=>e4 k fun e=>(F.ownB s b hso k1).2.2 (e▸F.ok_any hk)
      refine⟨w1,e1,F.store hso k1 e4 e5 e6 e7 e8 rfl ?_ ⟨b,c',E,k1,e2, ?_⟩⟩
      ·intro hg
       have:=F.slots s
       rw[ow_at hs hg]at this
       exact this
      ·rw[e3]
       exact(splice_rel k3 hvs).imp fun x v hxv=>hxv.mono hok (fun _ _ h=>h) (fun _ _=>rfl)
    ·cases h
   ·
    rename_i s sz i off
    split at h
    ·rename_i fr t xs hs
     cases hb:(Nat.beq sz t.size&&Nat.ble (off+vs.length) t.size)with
     |false=>simp only[hb,cond_false]at h;cases h
     |true=>
      simp only[hb,cond_true]at h
      simp only[Bool.and_eq_true]at hb
      obtain rfl:sz=t.size:=Nat.eq_of_beq_eq_true hb.1
      have hb':off+vs.length≤t.size:=Nat.le_of_ble_eq_true hb.2
      split at h
      ·rename_i x g hd
       simp only[Option.some.injEq,Prod.mk.injEq,true_and]at h
       subst h
       obtain⟨b,k1,rfl,k3,k4⟩:=(hp:SVRel w μ ok (.hptr s t.size i off) pv)
       have hso:(st.ow s).isOwner=true:=by rw[hs];rfl
       have hown:=arr_of F hs
       obtain⟨g1,g2,g3,g4⟩:=hown
       rcases g4 with⟨g4,_⟩|⟨b',c,E,j1,j2,j3,j4⟩
       ·rw[k1]at g4;cases g4
       ·rw[k1]at j1;cases j1
        have hlt:i.toNat<xs.length:=by omega
        obtain⟨us,t1,t2⟩:=j4 i.toNat hlt
        have husl:=t1.length
        rw[getD_at _ _ hlt]at hd
        have hsp:=splice_rel (o:=off) (enc_rel (μ:=μ) t1) hvs
        have hvl:vv.cells.toList.length=vs.length:=hvs.length.symm
        have hbound:(i.toNat+1)*t.size≤(μ s).cap*t.size:=Nat.mul_le_mul_right _ (by omega)
        have hst:i.toNat*t.size+off+vv.cells.toList.length≤c.size:=by rw[Nat.succ_mul]at hbound;omega
        obtain⟨w1,c',e1,e2,e3,e4,e5,e6,e7,e8⟩:=run_storeAt hP hT hlen j2 (o:=i.toNat*t.size+off) hst hone
        have hok: ∀fr k,ok fr k→w1.heap[k]? =w.heap[k]? :=fun fr k hk=>e4 k fun e=>(F.ownB s b hso k1).2.2 (e▸F.ok_any hk)
        have htr:=decAll_rel F.okT hsp hd
        have hc': ∀k,c'[k]? =if i.toNat*t.size+off≤k∧k<i.toNat*t.size+off+vv.cells.toList.length then vv.cells.toList[k-(i.toNat*t.size+off)]? else c[k]? :=by
         intro k
         rw[←Array.getElem?_toList,e3,getElem?_splice _ _ _ _ (by simpa using hst)]
         simp only[Array.getElem?_toList]
        have weak: ∀(f g:Bool) b,ok f b→ok (f&&g) b:=by
         intro f g b hb
         cases f with
         |true=>cases g with
          |true=>exact hb
          |false=>exact F.okT b hb
         |false=>exact hb
        have weak': ∀(f g:Bool) b,ok g b→ok (f&&g) b:=by
         intro f g b hb
         cases f with
         |true=>exact hb
         |false=>exact F.ok_any hb
        refine⟨w1,e1,F.store hso k1 e4 e5 e6 e7 e8 rfl ?_ ⟨by simp [g1],g2,g3,.inr ⟨b,c',E,k1,e2, ?_,fun j hj=> ?_⟩⟩⟩
        ·intro hg
         have:=F.slots s
         rw[ow_at hs hg]at this
         exact this
        ·have:c'.size=c.size:=by
          have:=congrArg List.length e3
          simp at this;simp at hst;omega
         rw[this];exact j3
        ·have hj':j<xs.length:=by simpa using hj
         by_cases hji:i.toNat=j
         ·subst hji
          refine⟨us.take off++vv.cells.toList++us.drop (off+vv.cells.toList.length), ?_,fun q hq=> ?_⟩
          ·rw[List.getElem_set_self]
           exact TRel.mono (hok _) (weak' fr g) htr
          have hq':q<us.length:=by
           have h1:=(TRel.length htr);rw[h1]at hq;omega
          rw[hc']
          have e9:=getElem?_splice us vv.cells.toList off q (by rw[husl,hvl];exact hb')
          rw[←List.getElem?_eq_getElem hq,e9]
          by_cases hin:off≤q∧q<off+vv.cells.toList.length
          ·rw[if_pos hin,if_pos (by omega),show i.toNat*t.size+q-(i.toNat*t.size+off)=q-off by omega]
          ·rw[if_neg hin,if_neg (by omega),List.getElem?_eq_getElem hq'];exact t2 q hq'
         ·obtain⟨cs,d1,d2⟩:=j4 j hj'
          refine⟨cs, ?_,fun q hq=> ?_⟩
          ·rw[List.getElem_set_ne hji]
           exact TRel.mono (hok _) (weak fr g) d1
          ·rw[hc',if_neg,d2 q hq]
           have hq':q<t.size:=by rw[←d1.length];exact hq
           rcases Nat.lt_or_gt_of_ne hji with hlt'|hgt
           ·have:(i.toNat+1)*t.size≤j*t.size:=Nat.mul_le_mul_right _ (by omega)
            rw[Nat.succ_mul]at this;omega
           ·have:(j+1)*t.size≤i.toNat*t.size:=Nat.mul_le_mul_right _ (by omega)
            rw[Nat.succ_mul]at this;omega
      ·cases h
    ·cases h
   ·
    rename_i s base len idx
    split at h
    ·rename_i cs k n hs
     split at h
     ·rename_i k' l he
      cases hb:(ikEq k k'&&Nat.beq l.length len)with
      |false=>simp only[hb,cond_false]at h;cases h
      |true=>
       simp only[hb,cond_true,Option.some.injEq,Prod.mk.injEq,true_and]at h
       subst h
       simp only[Bool.and_eq_true]at hb
       obtain rfl:=ikEq_eq hb.1
       have hl':l.length=len:=Nat.eq_of_beq_eq_true hb.2
       obtain⟨b,c,E,k1,k2,k3⟩:=ownCells F hs
       obtain⟨b',k1',rfl,h0,hi⟩:=(hp:SVRel w μ ok (.aptr s base len idx) pv)
       rw[k1]at k1';cases k1'
       obtain⟨s1,s2⟩:=selInt_rel ((k3.drop base).take len) he
       have hidx:idx.toNat<l.length:=by omega
       have hseg:((c.toList.drop base).take len).length=len:=by rw[s1];simp [hl']
       have hcl:base+len≤c.size:=by simp at hseg;omega
       obtain⟨u,hu1,hue,hun⟩:=one_inv hvs
       ·have hvl:vv.cells.toList=[.int k n]:=by rw[hu1,hue]
        obtain⟨w1,c',e1,e2,e3,e4,e5,e6,e7,e8⟩:=run_storeAt hP hT hlen k2 (o:=base+idx.toNat) (by rw[hvl];simp;omega) hone
        have hso:(st.ow s).isOwner=true:=by rw[hs];rfl
        have hok: ∀fr k,ok fr k→w1.heap[k]? =w.heap[k]? :=fun fr k hk=>e4 k fun e=>(F.ownB s b hso k1).2.2 (e▸F.ok_any hk)
        refine⟨w1,e1,F.store hso k1 e4 e5 e6 e7 e8 rfl ?_ ⟨b,c',E,k1,e2, ?_⟩⟩
        ·intro hg
         have:=F.slots s
         rw[ow_at hs hg]at this
         exact this
        ·have hnew:All2 (SVRel w μ ok) ((l.set idx.toNat n).map (SV.int k)) ((l.set idx.toNat n).map (Value.int k)):=by
          have: ∀l:List Int,(∀m∈l,k.has m)→All2 (SVRel w μ ok) (l.map (SV.int k)) (l.map (Value.int k)):=by
           intro l
           induction l with
           |nil=>intro _;exact .nil
           |cons m l ih=>intro h;exact .cons ⟨rfl,h m (by simp)⟩ (ih fun m hm=>h m (by simp [hm]))
          refine this _ fun m hm=> ?_
          rcases List.mem_or_eq_of_mem_set hm with hm|rfl
          ·exact s2 m hm
          ·exact hun
         have hsp:=splice_rel (o:=base) k3 hnew
         have heq:c'.toList=c.toList.take base++(l.set idx.toNat n).map (Value.int k)++c.toList.drop (base+((l.set idx.toNat n).map (Value.int k)).length):=by
          apply List.ext_getElem?
          intro q
          rw[e3,hvl,getElem?_splice _ _ _ _ (by simp;omega),getElem?_splice _ _ _ _ (by simp;omega)]
          simp only[List.length_cons,List.length_nil,List.length_map,List.length_set]
          have hcq:base≤q→q<base+l.length→c.toList[q]? =(l.map (Value.int k))[q-base]? :=by
           intro q1 q2
           rw[←s1,List.getElem?_take,if_pos (by omega),List.getElem?_drop,show base+(q-base)=q by omega]
          by_cases h1:q=base+idx.toNat
          ·subst h1
           simp [hidx,show base+idx.toNat-base=idx.toNat by omega]
          ·by_cases h2:base≤q∧q<base+l.length
           ·rw[if_neg (by omega),if_pos h2,hcq h2.1 h2.2,List.map_set,List.getElem?_set_ne (by omega)]
           ·rw[if_neg (by omega),if_neg h2]
         rw[heq]
         exact hsp.imp fun x v hxv=>hxv.mono hok (fun _ _ h=>h) (fun _ _=>rfl)
     ·cases h
    ·cases h
   ·cases h
 ·cases h
end
section
variable {P:Program} {mine:Cx} {w0:World} {st:St} {a:Act} {w:World} {μ:Locs} {ok:OK} {tb:Tab}
theorem set_getD_self (tm:Array Value) (r:Nat) (u:Value):tm.setIfInBounds r (tm.getD r u)=tm:=by
 apply Array.ext_getElem?
 intro i
 by_cases e:r=i
 ·subst e
  by_cases h:r<tm.size
  ·simp [Array.getElem?_setIfInBounds,Array.getD_eq_getD_getElem?,h]
  ·simp [Array.getElem?_setIfInBounds,h]
 ·simp [Array.getElem?_setIfInBounds,e]
theorem castL_eq' {a b:Ty} {xs:List a.D} {ys:List b.D} (h:Ty.castL a b xs=some ys): ∃e:b=a,xs=e▸ys:=by
 obtain⟨rfl,rfl⟩:=castL_eq h
 exact⟨rfl,rfl⟩
theorem upd_junk_ow (st:St) (r:Nat):(St.upd st r .junk).ow r= .one .junk:=by
 by_cases hl:r<st.length
 ·exact St.ow_upd_self st r (.inr rfl) hl
 ·exact St.ow_out _ _ (by rw[St.length_upd];omega)
theorem drop_owner {r i:Nat} (h:(St.ow (St.upd (st.kill r) r .junk) i).isOwner=true):i≠r∧(st.ow i).isOwner=true:=by
 by_cases e:i=r
 ·subst e
  rw[upd_junk_ow]at h;cases h
 ·refine⟨e, ?_⟩
  rw[St.ow_upd_ne _ _ (Ne.symm e),St.ow_kill,AV.isOwner_kill]at h
  exact h
theorem Facts.drop {tm:Array Value} (F:Facts mine w0 st tm w μ ok) (r:Nat):Facts mine w0 (St.upd (st.kill r) r .junk) tm w μ ok:=by
 have F1:=F.forget r
 have hgi: ∀i,(St.at (St.upd (st.kill r) r .junk) i).isGho=((st.kill r).at i).isGho:=fun i=>St.isGho_upd _ r i rfl
 refine⟨fun i=> ?_,fun i=> ?_,F.size,fun i h1 h2=>by rw[hgi];exact F1.gho i h1 (by rwa [St.length_upd]at h2),fun i h1=>by rw[hgi];exact F1.real i h1,by rw[St.length_upd];exact F1.len,F.pin,
  fun i b h1 h2=>F.ownB i b (drop_owner h1).2 h2,fun i j b h1 h2=>F.inj i j b (drop_owner h1).2 (drop_owner h2).2,F.okB,F.okT,F.okF,F.okS,F.fr⟩
 ·by_cases e:i=r
  ·subst e
   unfold St.upd
   by_cases hl:i<(st.kill i).length
   ·rw[St.at_set_self _ _ _ hl]
    unfold AV.re
    split<;>trivial
   ·rw[St.at_out _ _ (by simp;omega)];trivial
  ·rw[St.at_upd_ne _ _ (Ne.symm e)];exact F1.slots i
 ·by_cases e:i=r
  ·subst e;rw[upd_junk_ow];trivial
  ·rw[St.ow_upd_ne _ _ (Ne.symm e)];exact F1.owns i
theorem Facts.drew {tm:Array Value} (F:Facts mine w0 st tm w μ ok):Facts mine w0 st tm w.drew μ ok:=
 F.step (fun _ _=>rfl) (fun _ _ _ _=>rfl) (Nat.le_refl _) (fun _ _ h=>h) F.okB F.okT F.okF (fun i b h1 h2=>(F.ownB i b h1 h2).2.2) F.okS ⟨F.fr.os,F.fr.tape,F.fr.output,F.fr.size,F.fr.block⟩
structure SrcX (P:Program) (w:World) (okf:Nat→Prop) (t:Ty) (ys:List t.D) (T':TypeId) (sz:Nat) (xv:Value) (news:List Value):Prop where
 len:news.length=ys.length*t.size
 elems: ∀j (h:j<ys.length),∃cs,TRel w okf t ys[j] cs∧ ∀q (hq:q<cs.length),news[j*t.size+q]? =some cs[q]
 run:_root_.Go.Src P sz T' xv ys.length news w
theorem bytesT_rel {t:Ty} {s:ByteArray} {ys:List t.D} (h:bytesT t s=some ys) (okf:Nat→Prop):t.size=1∧ys.length=s.size∧ ∀j (h:j<ys.length),∃cs,TRel w okf t ys[j] cs∧ ∀q (hq:q<cs.length),(byteCells s)[j*t.size+q]? =some cs[q]:=by
 unfold bytesT at h
 split at h
 ·cases h
  refine⟨rfl,by unfold bytesOf;rw[List.length_map,Array.length_toList];rfl,fun j hj=> ?_⟩
  have hj':j<s.data.toList.length:=by simpa [bytesOf]using hj
  have hb:(bytesOf s)[j]=((s.data.toList[j]).toNat:Int):=by simp [bytesOf]
  refine⟨[.int .u8 ((s.data.toList[j]).toNat:Int)], ?_,fun q hq=> ?_⟩
  ·show [Value.int .u8 ((s.data.toList[j]).toNat:Int)]=[Value.int .u8 (bytesOf s)[j]]∧IntKind.u8.has (bytesOf s)[j]
   rw[hb]
   have h9:(s.data.toList[j]).toNat<256:=UInt8.toNat_lt _
   exact⟨rfl,by show(0:Int)≤_;omega,by show _≤(255:Int);omega⟩
  ·obtain rfl:q=0:=by simpa using hq
   unfold byteCells
   rw[show j*(Ty.int IntKind.u8).size+0=j by simp [Ty.size],List.getElem?_map,List.getElem?_eq_getElem hj']
   rfl
 ·cases h
theorem getSrc_rel (hP:TabOk P tb) (F:Facts mine w0 st a.tmps w μ ok) {t:Ty} {T T' e:TypeId} (hT:P.underlying T=some (.slice e)) {x:SV} {xv:Value} {g:Bool} {ys:List t.D} (hx:SVRel w μ ok x xv) (h:getSrc tb st t T T' x=some (g,ys)):
 ∃news,SrcX P w (ok g) t ys T' t.size xv news:=by
 have slice:(bif Nat.beq T T' then getSl st t x else none)=some (g,ys)→ ∃news,SrcX P w (ok g) t ys T' t.size xv news:=by
  intro h
  cases hb:Nat.beq T T' with
  |false=>rw[hb]at h;cases h
  |true=>
   obtain rfl:=Nat.eq_of_beq_eq_true hb
   rw[hb]at h
   obtain⟨A,c,news,rfl,src⟩:=getSl_rel F hx h
   cases A with
   |none=>
    have:=src.nil rfl
    subst this
    have hn:news=[]:=List.eq_nil_of_length_eq_zero (by rw[src.len];simp)
    subst hn
    exact⟨[],src.len,src.elems,_root_.Go.Src.ofNil w hT c⟩
   |some ad=>exact⟨news,src.len,src.elems,_root_.Go.Src.ofSlice w hT ad ys.length c news src.len (src.cells ad rfl) src.one⟩
 cases x with
 |str s=>
  simp only[getSrc]at h
  split at h
  ·rename_i z l hT' hl
   cases h
   obtain⟨i,d,zv,_,_,g3,_,_,_,_,_,_,g7⟩:=hP T' _ hT'
   rw[g7 _ rfl]at g3
   obtain⟨rfl,_⟩:=(hx:SVRel w μ ok (.str s) xv)
   obtain⟨b1,b2,b3⟩:=bytesT_rel (w:=w) hl (ok true)
   refine⟨byteCells s,by rw[byteCells_length,b2,b1,Nat.mul_one],b3, ?_⟩
   rw[b1,b2]
   exact _root_.Go.Src.ofString w g3 s
  ·cases h
 |_=>exact slice h
theorem run_append_none {t T' ty e:TypeId} {i:TypeInfo} (ht:P.underlying t=some (.slice e)) (hi:P.info? e=some i) (A:Option Addr) (n c:Nat) (hn:n≤c) {x:Value} (hs:_root_.Go.Src P i.size T' x 0 [] w):
 (Builtin.append_ #[t,T'] ty #[.slice A n c,x]).run P w= .ok (.slice A n c) w:=by
 rcases hs.kind with⟨e',hk⟩|hk<;>
  (cases A<;>simp [Builtin.append_,run_underlying ht,run_underlying hk,sizeOf,typeInfo,hi,hs.len,hn,hs.cells,storeCells])
theorem run_append_room' {t T' ty e E:TypeId} {i:TypeInfo} (ht:P.underlying t=some (.slice e)) (hi:P.info? e=some i)
 (g sLen sCap:Nat) (cur:Array Value) (hg:w.heap[g]? =some (.cells cur E (0,0)))
 {x:Value} (m:Nat) (news:List Value) (hs:_root_.Go.Src P i.size T' x m news w)
 (hroom:sLen+m≤sCap) (hfit:sLen*i.size+news.length≤cur.size):
 ∃w1 c',(Builtin.append_ #[t,T'] ty #[.slice (some ⟨g,0,none⟩) sLen sCap,x]).run P w= .ok (.slice (some ⟨g,0,none⟩) (sLen+m) sCap) w1∧
  w1.heap[g]? =some (.cells c' E (0,0))∧c'.toList=cur.toList.take (sLen*i.size)++news++cur.toList.drop (sLen*i.size+news.length)∧
  (∀k,k≠g→w1.heap[k]? =w.heap[k]?)∧w1.heap.size=w.heap.size∧w1.os=w.os∧w1.tape=w.tape∧w1.output=w.output:=by
 obtain⟨w1,c',e1,e2,e3,e4⟩:=run_storeCells (P:=P) g E news (sLen*i.size) 0 w cur hg (by simpa using hfit) hs.one
 refine⟨w1,c', ?_,e2,by simpa using e3,e4⟩
 rcases hs.kind with⟨e',hk⟩|hk<;>simp [Builtin.append_,run_underlying ht,run_underlying hk,sizeOf,typeInfo,hi,hs.len,hroom,hs.cells,add_none,e1]
theorem append_sound0 (hP:TabOk P tb) (F:Facts mine w0 st a.tmps w μ ok) {T T' d:Nat} {ty:TypeId} {s x:AV} {sv xv:Value} (hs:AVRel w μ ok s sv) (hx:AVRel w μ ok x xv) {st':St}
 (h:mdAppend0 tb st T T' s x d=some (true,st')): ∃x' w1 μ',(Builtin.append_ #[T,T'] ty #[sv,xv]).run P w= .ok x' w1∧Facts mine w0 st' (a.tmps.setIfInBounds d x') w1 μ' ok:=by
 unfold mdAppend0 at h
 split at h
 ·rename_i e t bytes s x hT
  obtain⟨i0,ei,ze,_,_,_,hu,hei,hes,heb,hez,hze,hb0,hts⟩:=hP T _ hT
  have hzs:ze.cells.size=t.size:=by have:=(hze w (ok true)).length;simpa using this
  split at h
  ·rename_i g ys hg
   have hxj:x≠ .junk:=by
    intro e
    subst e
    have hg:(bif Nat.beq T T' then getSl st t .junk else none)=some (g,ys):=hg
    cases hb:Nat.beq T T'<;>rw[hb]at hg<;>cases hg
   obtain⟨news,src⟩:=getSrc_rel hP F hu (one_of hxj hx) hg
   have hrunX:=src.run
   rw[←hes]at hrunX
   have hnl:news.length=ys.length*ei.size:=by rw[hes];exact src.len
   have fresh: ∀(st1:St),Facts mine w0 st1 a.tmps w μ ok→ ∀(f:Bool) (zs:List t.D) (olds:List Value) (old:Nat) (hold:olds.length=zs.length*t.size),
    (∀b,ok f b→ok (f&&g) b)→(∀b,ok g b→ok (f&&g) b)→
    (∀j (h:j<zs.length),∃cs,TRel w (ok f) t zs[j] cs∧ ∀q (hq:q<cs.length),olds[j*t.size+q]? =some cs[q])→(zs++ys).length≤9223372036854775807→
    ∃μ',Facts mine w0 (st1.put d (.arr (f&&g) t (zs++ys))) (a.tmps.setIfInBounds d (.slice (some ⟨w.heap.size,0,none⟩) (zs.length+ys.length) (grownCap w (zs.length+ys.length) old e)))
     (w.drew.alloc (.cells (olds.toArray++news.toArray++Builtin.zeroCells ze.cells (grownCap w (zs.length+ys.length) old e-(zs.length+ys.length))) e)) μ' ok:=by
    intro st1 F1 f zs olds old hold ok1 ok2 hz hmax
    have F2:=F1.drew.alloc (.cells (olds.toArray++news.toArray++Builtin.zeroCells ze.cells (grownCap w (zs.length+ys.length) old e-(zs.length+ys.length))) e)
    have hmax':zs.length+ys.length≤9223372036854775807:=by simpa using hmax
    have hcap:=grownCap_le_maxLen w (zs.length+ys.length) old e (by simp only[maxLen];omega)
    have hge:=grownCap_ge w (zs.length+ys.length) old e
    simp only[maxLen]at hcap
    refine F2.putNew d (v:= .arr (f&&g) t (zs++ys)) ⟨⟨some w.heap.size,zs.length+ys.length,grownCap w (zs.length+ys.length) old e⟩,rfl,⟨by simp,hge,by show _≤_;omega,
     .inr ⟨w.heap.size,_,e,rfl,heap_at_new w.drew _, ?_,fun j hj=> ?_⟩⟩,fun b hb=> ?_⟩
    ·have hnl':=src.len
     simp only[Array.size_append,List.size_toArray,hold,hnl',Builtin.zeroCells,Array.size_map,Array.size_range,hzs,←Nat.add_mul]
     show grownCap w (zs.length+ys.length) old e*t.size≤_
     exact Nat.mul_le_mul_right _ (by omega)
    ·have stay: ∀ {u:t.D} {cs:List Value} {q:Bool},(∀b,ok q b→ok (f&&g) b)→TRel w (ok q) t u cs→
      TRel (w.drew.alloc (.cells (olds.toArray++news.toArray++Builtin.zeroCells ze.cells (grownCap w (zs.length+ys.length) old e-(zs.length+ys.length))) e)) (ok (f&&g)) t u cs:=
      fun hq h=>TRel.mono (w:=w) (fun b hb=>(RowKit.Below.heap_alloc w.drew _ _ (F.okB b (F.ok_any hb))).trans rfl) hq h
     rcases Nat.lt_or_ge j zs.length with hlt|hge'
     ·obtain⟨cs,t1,t2⟩:=hz j hlt
      refine⟨cs,by rw[List.getElem_append_left hlt];exact stay ok1 t1,fun q hq=> ?_⟩
      have hq':q<t.size:=by rw[←t1.length];exact hq
      have hb:j*t.size+q<olds.length:=by
       rw[hold]
       have:(j+1)*t.size≤zs.length*t.size:=Nat.mul_le_mul_right _ (by omega)
       rw[Nat.succ_mul]at this;omega
      rw[←t2 q hq,Array.append_assoc,←Array.getElem?_toList]
      simp only[Array.toList_append]
      rw[List.getElem?_append_left (by simpa using hb)]
     ·have hj':j-zs.length<ys.length:=by simp at hj;omega
      obtain⟨cs,t1,t2⟩:=src.elems (j-zs.length) hj'
      refine⟨cs,by rw[List.getElem_append_right hge'];exact stay ok2 t1,fun q hq=> ?_⟩
      have hq':q<t.size:=by rw[←t1.length];exact hq
      have hb:(j-zs.length)*t.size+q<news.length:=by
       rw[src.len]
       have:(j-zs.length+1)*t.size≤ys.length*t.size:=Nat.mul_le_mul_right _ (by omega)
       rw[Nat.succ_mul]at this;omega
      have he:j*t.size+q=olds.length+((j-zs.length)*t.size+q):=by
       rw[hold,←Nat.add_assoc,←Nat.add_mul];congr 2;omega
      rw[←t2 q hq,Array.append_assoc,←Array.getElem?_toList,he]
      simp only[Array.toList_append]
      rw[List.getElem?_append_right (by simp),List.getElem?_append_left (by simpa using hb)]
      simp
    ·cases hb;exact F1.drew.freshNew _
   have onNil: ∀(st1:St),Facts mine w0 st1 a.tmps w μ ok→ ∀(f:Bool),ys.length*bytes≤140737488355328→(∀b,ok g b→ok (f&&g) b)→(∀b,ok f b→ok (f&&g) b)→
    ∃x' w1 μ',(Builtin.append_ #[T,T'] ty #[.slice none 0 0,xv]).run P w= .ok x' w1∧Facts mine w0 (st1.put d (.arr (f&&g) t ys)) (a.tmps.setIfInBounds d x') w1 μ' ok:=by
    intro st1 F1 f hbound ok2 ok1
    have hys:ys.length≤140737488355328:=Nat.le_trans (Nat.le_mul_of_pos_right _ hb0) hbound
    by_cases hn:ys.length=0
    ·have hy:ys=[]:=List.eq_nil_of_length_eq_zero hn
     subst hy
     obtain⟨μ',F2⟩:=F1.putNew d (v:= .arr (f&&g) t []) (x:= .slice none 0 0) ⟨⟨none,0,0⟩,rfl,⟨rfl,Nat.le_refl _,by show(0:Nat)≤_;omega,.inl ⟨rfl,rfl,rfl⟩⟩,fun b hb=>by cases hb⟩
     obtain rfl:news=[]:=List.eq_nil_of_length_eq_zero (by rw[src.len];simp)
     exact⟨_,w,μ',run_append_none hu hei none 0 0 (Nat.le_refl _) hrunX,F2⟩
    ·have hrun:=run_append_grow_src (P:=P) w T T' ty e ei ze hu hei hez none 0 0 [] (run_firstCells_none w.drew ei.size 0 0 0) xv ys.length news hrunX (by omega) (by omega) (by
      rw[heb,Nat.zero_add]
      have:Builtin.nextslicecap ys.length 0=ys.length:=by unfold Builtin.nextslicecap;rw[if_pos (by omega)]
      rw[this];omega)
     obtain⟨μ',F2⟩:=fresh st1 F1 f [] [] 0 (by simp) ok1 ok2 (by simp) (by simp;omega)
     simp only[List.nil_append,List.length_nil,Nat.zero_add,Array.empty_append]at F2 hrun
     refine⟨_,_,μ',hrun, ?_⟩
     simpa using F2
   have weak: ∀(f g:Bool) b,ok f b→ok (f&&g) b:=by
    intro f g b hb
    cases f with
    |true=>cases g with
     |true=>exact hb
     |false=>exact F.okT b hb
    |false=>exact hb
   have weak': ∀(f g:Bool) b,ok g b→ok (f&&g) b:=by
    intro f g b hb
    cases f with
    |true=>exact hb
    |false=>exact F.ok_any hb
   split at h
   ·
    simp only[Option.some.injEq,Prod.mk.injEq,decide_eq_true_eq]at h
    obtain⟨hbound,rfl⟩:=h
    rw[show sv= .slice none 0 0 from hs]
    have:=onNil st F true hbound (by simp) (by simpa using weak true g)
    simpa using this
   ·rename_i r
    split at h
    ·rename_i f t' xs hr
     split at h
     ·rename_i xs1 hc
      obtain⟨rfl,rfl⟩:=castL_eq' hc
      simp only[Option.some.injEq,Prod.mk.injEq,decide_eq_true_eq]at h
      obtain⟨hbound,rfl⟩:=h
      have hro:(st.ow r).isOwner=true:=by rw[hr];rfl
      have F1:=F.drop r
      obtain⟨rfl,_⟩:=(hs:SVRel w μ ok (.hot r none) sv)
      obtain⟨g1,g2,g3,g4⟩:=arr_of F hr
      have hlen:xs.length+ys.length≤140737488355328:=Nat.le_trans (Nat.le_mul_of_pos_right _ hb0) hbound
      rcases g4 with⟨k1,rfl,k3⟩|⟨b,cur,E,k1,k2,k3,k4⟩
      ·have hsl:slv (μ r) none= .slice none 0 0:=by
        unfold slv;simp at g1;rw[k1,Option.getD_none,k3,g1];rfl
       rw[hsl]
       have:=onNil _ F1 f (by simpa using hbound) (weak' f g) (weak f g)
       simpa using this
      ·have hsl:slv (μ r) none= .slice (some ⟨b,0,none⟩) xs.length (μ r).cap:=by unfold slv;rw[k1,Option.getD_none,g1];rfl
       rw[hsl]
       by_cases hy:ys.length=0
       ·
        have hy':ys=[]:=List.eq_nil_of_length_eq_zero hy
        subst hy'
        obtain rfl:news=[]:=List.eq_nil_of_length_eq_zero (by rw[src.len];simp)
        have hrun:=run_append_none (w:=w) (ty:=ty) hu hei (some ⟨b,0,none⟩) xs.length (μ r).cap (by omega) hrunX
        have hnew:NewRel mine w0 (St.upd (st.kill r) r .junk) w μ ok (.arr (f&&g) t xs) (slv (μ r) none):=by
         refine⟨μ r,rfl,⟨g1,g2,g3,.inr ⟨b,cur,E,k1,k2,k3,fun j hj=> ?_⟩⟩,fun b' hb'=> ?_⟩
         ·obtain⟨cs,t1,t2⟩:=k4 j hj
          exact⟨cs,TRel.mono (fun _ _=>rfl) (weak f g) t1,t2⟩
         ·rw[k1]at hb';cases hb'
          have hB:=F.ownB r b hro k1
          exact⟨hB.1,hB.2.1,hB.2.2,fun i hi hib=>(drop_owner hi).1 (F.inj i r b (drop_owner hi).2 hro hib k1)⟩
        obtain⟨μ',F2⟩:=F1.putNew d hnew
        refine⟨_,w,μ',hrun, ?_⟩
        rw[hsl]at F2
        simpa using F2
       ·by_cases hroom:xs.length+ys.length≤(μ r).cap
        ·
         have hfit:xs.length*ei.size+news.length≤cur.size:=by
          rw[hnl,←Nat.add_mul,hes]
          exact Nat.le_trans (Nat.mul_le_mul_right _ hroom) k3
         obtain⟨w1,c',e1,e2,e3,e4,e5,e6,e7,e8⟩:=run_append_room' (ty:=ty) hu hei b xs.length (μ r).cap cur k2 ys.length news hrunX hroom hfit
         have hB:=F.ownB r b hro k1
         have hok: ∀fr k,ok fr k→w1.heap[k]? =w.heap[k]? :=fun fr k hk=>e4 k fun e=>hB.2.2 (e▸F.ok_any hk)
         have F2:=F1.step (w1:=w1) (ok1:=ok) (fun k hk=>hok false k hk) (fun i k hi hk=>e4 k fun e=>(drop_owner hi).1 (F.inj i r b (drop_owner hi).2 hro (e▸hk) k1)) (by omega) (fun _ _ h=>h)
          (fun k hk=>by rw[e5];exact F.okB k hk) F.okT F.okF (fun i k hi hk=>(F1.ownB i k hi hk).2.2) F.okS
          ⟨e6.trans F.fr.os,e7.trans F.fr.tape,e8.trans F.fr.output,by rw[e5];exact F.fr.size,fun k hk hm=>by
           rw[e4 k fun e=> ?_]
           ·exact F.fr.block k hk hm
           ·subst e
            rcases hB.2.1 with h|h
            ·omega
            ·exact hm h⟩
         have hcg: ∀k,c'[k]? =if xs.length*t.size≤k∧k<xs.length*t.size+news.length then news[k-xs.length*t.size]? else cur[k]? :=by
          intro k
          rw[←Array.getElem?_toList,e3,hes,getElem?_splice _ _ _ _ (by rw[hes]at hfit;simpa using hfit)]
          simp only[Array.getElem?_toList]
         have hnew:NewRel mine w0 (St.upd (st.kill r) r .junk) w1 μ ok (.arr (f&&g) t (xs++ys)) (.slice (some ⟨b,0,none⟩) (xs.length+ys.length) (μ r).cap):=by
          refine⟨⟨some b,xs.length+ys.length,(μ r).cap⟩,rfl,⟨by simp,hroom,g3,.inr ⟨b,c',E,rfl,e2, ?_,fun j hj=> ?_⟩⟩,fun b' hb'=> ?_⟩
          ·have:c'.size=cur.size:=by
            have:=congrArg List.length e3
            simp at this;omega
           rw[this];exact k3
          ·rcases Nat.lt_or_ge j xs.length with hlt|hge'
           ·obtain⟨cs,t1,t2⟩:=k4 j hlt
            refine⟨cs,by rw[List.getElem_append_left hlt];exact TRel.mono (hok f) (weak f g) t1,fun q hq=> ?_⟩
            have hq':q<t.size:=by rw[←t1.length];exact hq
            have:(j+1)*t.size≤xs.length*t.size:=Nat.mul_le_mul_right _ (by omega)
            rw[Nat.succ_mul]at this
            rw[hcg,if_neg (by omega)];exact t2 q hq
           ·have hj':j-xs.length<ys.length:=by simp at hj;omega
            obtain⟨cs,t1,t2⟩:=src.elems (j-xs.length) hj'
            refine⟨cs,by rw[List.getElem_append_right hge'];exact TRel.mono (hok g) (weak' f g) t1,fun q hq=> ?_⟩
            have hq':q<t.size:=by rw[←t1.length];exact hq
            have hb:(j-xs.length)*t.size+q<news.length:=by
             rw[src.len]
             have:(j-xs.length+1)*t.size≤ys.length*t.size:=Nat.mul_le_mul_right _ (by omega)
             rw[Nat.succ_mul]at this;omega
            have he:j*t.size+q=xs.length*t.size+((j-xs.length)*t.size+q):=by
             rw[←Nat.add_assoc,←Nat.add_mul];congr 2;omega
            rw[hcg,he,if_pos (by omega),Nat.add_sub_cancel_left];exact t2 q hq
          ·cases hb'
           exact⟨by rw[e5];exact hB.1,hB.2.1,hB.2.2,fun i hi hib=>(drop_owner hi).1 (F.inj i r b (drop_owner hi).2 hro hib k1)⟩
         obtain⟨μ',F3⟩:=F2.putNew d hnew
         exact⟨_,w1,μ',e1,F3⟩
        ·
         let olds:=cur.toList.take (xs.length*t.size)
         have hxs:xs.length*t.size≤cur.size:=Nat.le_trans (Nat.mul_le_mul_right _ (by omega)) k3
         have hol:olds.length=xs.length*t.size:=by simp [olds];omega
         have holds: ∀j v,olds[j]? =some v→w.cell? ((⟨b,0,none⟩:Addr).add j)=some v:=by
          intro j v hj
          rw[add_none,cell_block k2,Nat.zero_add]
          simp only[olds,List.getElem?_take]at hj
          split at hj
          ·simpa using hj
          ·cases hj
         have hrun:=run_append_grow_src (P:=P) w T T' ty e ei ze hu hei hez (some ⟨b,0,none⟩) xs.length (μ r).cap olds
          (run_firstCells_some w.drew ei.size xs.length ⟨b,0,none⟩ xs.length (μ r).cap olds (by rw[hes];exact hol) (fun j v hj=>(by have:=holds j v hj;simpa using this))) xv ys.length news hrunX (by omega) (by omega)
          (by rw[heb];exact growslice_fits (by omega) hbound)
         rw[show(olds++news).toArray=olds.toArray++news.toArray by simp]at hrun
         obtain⟨μ',F2⟩:=fresh _ F1 f xs olds (μ r).cap hol (weak f g) (weak' f g) (fun j hj=>by
          obtain⟨cs,t1,t2⟩:=k4 j hj
          refine⟨cs,t1,fun q hq=> ?_⟩
          have hq':q<t.size:=by rw[←t1.length];exact hq
          have:(j+1)*t.size≤xs.length*t.size:=Nat.mul_le_mul_right _ (by omega)
          rw[Nat.succ_mul]at this
          simp only[olds]
          rw[List.getElem?_take,if_pos (by omega),Array.getElem?_toList];exact t2 q hq) (by simp;omega)
         exact⟨_,_,μ',hrun,F2⟩
     ·cases h
    ·cases h
   ·cases h
  ·cases h
 ·cases h
theorem newArr_sound {tm:Array Value} (F:Facts mine w0 st tm w μ ok) (d:Nat):Facts mine w0 (newArr st d) tm w μ ok:=by
 unfold newArr
 split
 ·rename_i t xs hd
  cases hf:t.flat with
  |false=>exact F
  |true=>
   simp only[cond_true]
   have hat: ∀i,St.at (List.set st d (.arr true t xs)) i=st.at i∨(i=d∧St.at (List.set st d (.arr true t xs)) i= .arr true t xs):=by
    intro i
    rw[St.at_set]
    split
    ·rename_i h;exact .inr ⟨h.1.symm,rfl⟩
    ·exact .inl rfl
   have hown: ∀i,(St.ow (List.set st d (.arr true t xs)) i).isOwner=(st.ow i).isOwner:=by
    intro i
    unfold St.ow
    rcases hat i with e|⟨rfl,e⟩
    ·rw[e]
    ·rw[e,hd];rfl
   have hun: ∀i,St.ow (List.set st d (.arr true t xs)) i=st.ow i∨(i=d∧St.ow (List.set st d (.arr true t xs)) i= .arr true t xs):=by
    intro i
    unfold St.ow
    rcases hat i with e|⟨e1,e⟩
    ·rw[e];exact .inl rfl
    ·rw[e];exact .inr ⟨e1,rfl⟩
   have howd:st.ow d= .arr false t xs:=by unfold St.ow;rw[hd];rfl
   have hgi: ∀i,(St.at (List.set st d (.arr true t xs)) i).isGho=(st.at i).isGho:=by
    intro i
    rcases hat i with e|⟨rfl,e⟩
    ·rw[e]
    ·rw[e,hd];rfl
   refine⟨fun i=> ?_,fun i=> ?_,F.size,fun i h1 h2=>by rw[hgi];exact F.gho i h1 (by simpa using h2),fun i h1=>by rw[hgi];exact F.real i h1,by rw[List.length_set];exact F.len,F.pin,fun i b h1 h2=>F.ownB i b (by rw[←hown];exact h1) h2,fun i j b h1 h2=>F.inj i j b (by rw[←hown];exact h1) (by rw[←hown];exact h2),F.okB,F.okT,F.okF,F.okS,F.fr⟩
   ·rcases hat i with e|⟨rfl,e⟩
    ·rw[e];exact F.slots i
    ·rw[e]
     have:=F.slots i
     rw[hd]at this
     exact this
   ·rcases hun i with e|⟨rfl,e⟩
    ·rw[e];exact F.owns i
    ·rw[e]
     have:=F.owns i
     rw[howd]at this
     obtain⟨g1,g2,g3,g4⟩:=this
     refine⟨g1,g2,g3, ?_⟩
     rcases g4 with g4|⟨b,c,E,k1,k2,k3,k4⟩
     ·exact .inl g4
     ·refine .inr ⟨b,c,E,k1,k2,k3,fun j hj=> ?_⟩
      obtain⟨cs,t1,t2⟩:=k4 j hj
      exact⟨cs,TRel.flat hf t1,t2⟩
 ·exact F
theorem append_sound (hP:TabOk P tb) (F:Facts mine w0 st a.tmps w μ ok) {T T' d:Nat} {ty:TypeId} {s x:AV} {sv xv:Value} (hs:AVRel w μ ok s sv) (hx:AVRel w μ ok x xv) {st':St}
 (h:mdAppend tb st T T' s x d=some (true,st')): ∃x' w1 μ',(Builtin.append_ #[T,T'] ty #[sv,xv]).run P w= .ok x' w1∧Facts mine w0 st' (a.tmps.setIfInBounds d x') w1 μ' ok:=by
 unfold mdAppend at h
 split at h
 ·rename_i g st1 h0
  cases h
  obtain⟨x',w1,μ',e,F'⟩:=append_sound0 hP F (ty:=ty) hs hx h0
  exact⟨x',w1,μ',e,newArr_sound F' d⟩
 ·cases h
theorem copy_sound (hP:TabOk P tb) (F:Facts mine w0 st a.tmps w μ ok) {T d:Nat} {ty T2:TypeId} {s x:AV} {sv xv:Value} (hs:AVRel w μ ok s sv) (hx:AVRel w μ ok x xv) {st':St}
 (h:mdCopy tb st T s x d=some (true,st')): ∃x' w1 μ',(Builtin.copy_ #[T,T2] ty #[sv,xv]).run P w= .ok x' w1∧Facts mine w0 st' (a.tmps.setIfInBounds d x') w1 μ' ok:=by
 unfold mdCopy at h
 split at h
 ·rename_i e t bytes r x hT
  obtain⟨i0,ei,ze,_,_,_,hu,hei,hes,heb,hez,hze,hb0,hts⟩:=hP T _ hT
  split at h
  ·rename_i g ys f t' xs hg hr
   have hxj:x≠ .junk:=by intro e;subst e;cases hg
   obtain⟨A,c,news,rfl,src⟩:=getSl_rel F (one_of hxj hx) hg
   split at h
   ·rename_i xs1 hc
    obtain⟨rfl,rfl⟩:=castL_eq' hc
    cases hf:t.flat with
    |false=>rw[hf]at h;cases h
    |true=>
     rw[hf]at h
     simp only[cond_true,Option.some.injEq,Prod.mk.injEq,true_and]at h
     subst h
     have hro:(st.ow r).isOwner=true:=by rw[hr];rfl
     obtain⟨rfl,_⟩:=(hs:SVRel w μ ok (.hot r none) sv)
     obtain⟨g1,g2,g3,g4⟩:=arr_of F hr
     obtain⟨n,hn⟩: ∃n,n=Nat.min ys.length xs.length:=⟨_,rfl⟩
     have hnx:n≤xs.length:=hn▸Nat.min_le_right _ _
     have hny:n≤ys.length:=hn▸Nat.min_le_left _ _
     have hint: ∀w1:World,AVRel w1 μ ok (.one (.int .i64 ((n:Nat):Int))) (goInt n):=fun w1=>by
      refine⟨rfl, ?_⟩
      unfold IntKind.has IntKind.min IntKind.max;simp [IntKind.signed,IntKind.bits];omega
     have hnl:(news.take (n*ei.size)).length=n*ei.size:=by
      rw[List.length_take,src.len,←hes]
      exact Nat.min_eq_left (Nat.mul_le_mul_right _ hny)
     have hfc:(Builtin.firstCells ei.size n (.slice A ys.length c)).run P w= .ok (news.take (n*ei.size)).toArray w:=by
      cases A with
      |none=>
       have:ys=[]:=src.nil rfl
       subst this
       obtain rfl:n=0:=by simpa using hny
       simp [Builtin.firstCells]
      |some ad=>
       refine run_firstCells_some w ei.size n ad ys.length c _ hnl fun j v hj=> ?_
       rw[List.getElem?_take]at hj
       split at hj
       ·exact src.cells ad rfl j v hj
       ·cases hj
     have hlen:(ys.take xs.length++xs.drop ys.length).length=xs.length:=by simp;omega
     rw[←hn]
     rcases g4 with⟨k1,hxs,k3⟩|⟨b,cur,E,k1,k2,k3,k4⟩
     ·subst hxs
      obtain rfl:n=0:=by simpa using hnx
      have hsl:slv (μ r) none= .slice none 0 0:=by
       unfold slv;simp at g1;rw[k1,Option.getD_none,k3,g1];rfl
      rw[hsl]
      have hst:St.upd st r (.arr f t (ys.take ([]:List t.D).length++([]:List t.D).drop ys.length))=st:=by
       simp only[List.length_nil,List.take_zero,List.drop_nil,List.append_nil]
       rw[←hr]
       unfold St.upd St.ow
       apply List.ext_getElem?
       intro i
       rw[List.getElem?_set]
       split
       ·rename_i e
        subst e
        split
        ·rename_i hl
         have e2:st[r]? =some (st.at r):=by unfold St.at;rw[List.getD_eq_getElem?_getD,List.getElem?_eq_getElem hl];rfl
         rw[e2]
         cases hq:st.at r with
         |gho o=>cases o<;>rfl
         |_=>rfl
        ·rename_i hl;rw[List.getElem?_eq_none (by omega)]
       ·rfl
      rw[hst]
      obtain⟨μ',F2⟩:=F.putNew d (NewRel.of_av (mine:=mine) (w0:=w0) (st:=st) rfl (hint w))
      refine⟨_,w,μ', ?_,F2⟩
      have hfc0:(Builtin.firstCells ei.size 0 (.slice A ys.length c)).run P w= .ok #[] w:=by simpa using hfc
      simp [Builtin.copy_,underlying,hu,sizeOf,typeInfo,hei,Builtin.lenOf,hfc0]
     ·have hsl:slv (μ r) none= .slice (some ⟨b,0,none⟩) xs.length (μ r).cap:=by unfold slv;rw[k1,Option.getD_none,g1];rfl
      rw[hsl]
      have hfit:0+0+(news.take (n*ei.size)).length≤cur.size:=by
       rw[hnl,hes]
       have:=Nat.mul_le_mul_right t.size (show n≤(μ r).cap by omega)
       omega
      obtain⟨w1,c',e1,e2,e3,e4,e5,e6,e7,e8⟩:=run_storeCells (P:=P) b E (news.take (n*ei.size)) 0 0 w cur k2 hfit (fun v hv=>src.one v (List.mem_of_mem_take hv))
      have hc': ∀k,c'[k]? =if k<n*t.size then news[k]? else cur[k]? :=by
       intro k
       rw[←Array.getElem?_toList,e3,getElem?_splice _ _ _ _ (by simpa using hfit)]
       rw[hnl,hes]
       simp only[Nat.zero_add,Nat.zero_le,true_and,Nat.sub_zero,Array.getElem?_toList]
       split
       ·rename_i hk;rw[List.getElem?_take,if_pos hk]
       ·rfl
      have F1:Facts mine w0 (St.upd st r (.arr f t (ys.take xs.length++xs.drop ys.length))) a.tmps w1 μ ok:=by
       refine F.store hro k1 e4 e5 e6 e7 e8 rfl ?_ ⟨by rw[hlen];exact g1,g2,g3,.inr ⟨b,c',E,k1,e2, ?_,fun j hj=> ?_⟩⟩
       ·intro hg
        have:=F.slots r
        rw[ow_at hr hg]at this
        exact this
       ·have:c'.size=cur.size:=by
         have:=congrArg List.length e3
         simp at this;simp at hfit;omega
        rw[this];exact k3
       ·have hj':j<xs.length:=by rw[hlen]at hj;exact hj
        by_cases hjn:j<n
        ·have hjy:j<ys.length:=by omega
         obtain⟨cs,t1,t2⟩:=src.elems j hjy
         refine⟨cs, ?_,fun q hq=> ?_⟩
         ·rw[List.getElem_append_left (by simp;omega),List.getElem_take];exact TRel.flat hf t1
         ·have hq':q<t.size:=by rw[←t1.length];exact hq
          have:(j+1)*t.size≤n*t.size:=Nat.mul_le_mul_right _ (by omega)
          rw[Nat.succ_mul]at this
          rw[hc',if_pos (by omega)];exact t2 q hq
        ·have hjy:ys.length≤j:=by
          have:n=ys.length∨n=xs.length:=by rw[hn];exact(Nat.le_total ys.length xs.length).imp (fun h=>Nat.min_eq_left h) (fun h=>Nat.min_eq_right h)
          omega
         obtain⟨cs,t1,t2⟩:=k4 j hj'
         refine⟨cs, ?_,fun q hq=> ?_⟩
         ·have ht:(ys.take xs.length).length=ys.length:=by simp;omega
          rw[List.getElem_append_right (by omega),List.getElem_drop]
          simp only[ht,show ys.length+(j-ys.length)=j by omega]
          exact TRel.flat hf t1
         ·have hq':q<t.size:=by rw[←t1.length];exact hq
          have:n*t.size≤j*t.size:=Nat.mul_le_mul_right _ (by omega)
          rw[hc',if_neg (by omega)];exact t2 q hq
      obtain⟨μ',F2⟩:=F1.putNew d (NewRel.of_av rfl (hint w1))
      refine⟨_,w1,μ', ?_,F2⟩
      have hmin:min ys.length xs.length=n:=hn.symm
      have hmin':Nat.min ys.length xs.length=n:=hn.symm
      simp [Builtin.copy_,underlying,hu,sizeOf,typeInfo,hei,Builtin.lenOf,hmin,hmin',hfc,e1]
   ·cases h
  ·cases h
 ·rename_i e t bytes r sz lo hi x hT
  obtain⟨i0,ei,ze,_,_,_,hu,hei,hes,heb,hez,hze,hb0,hts⟩:=hP T _ hT
  split at h
  ·rename_i g ys f t' xs hg hr
   have hxj:x≠ .junk:=by intro e;subst e;cases hg
   obtain⟨A,c,news,rfl,src⟩:=getSl_rel F (one_of hxj hx) hg
   split at h
   ·rename_i xs1 hc
    obtain⟨rfl,rfl⟩:=castL_eq' hc
    cases hf:t.flat with
    |false=>rw[hf]at h;cases h
    |true=>
     cases hz:Nat.beq sz t.size with
     |false=>rw[hf,hz]at h;cases h
     |true=>
     rw[hf,hz]at h
     obtain rfl:=Nat.eq_of_beq_eq_true hz
     simp only[Bool.and_self,cond_true,Option.some.injEq,Prod.mk.injEq,true_and]at h
     subst h
     have hro:(st.ow r).isOwner=true:=by rw[hr];rfl
     obtain⟨b0,hb0',rfl,hlh,hhl⟩:=(hs:SVRel0 w μ ok (.cut r t.size lo hi) sv)
     obtain⟨g1,g2,g3,g4⟩:=arr_of F hr
     obtain⟨n,hn⟩: ∃n,n=Nat.min ys.length (hi-lo):=⟨_,rfl⟩
     have hnx:n≤hi-lo:=hn▸Nat.min_le_right _ _
     have hny:n≤ys.length:=hn▸Nat.min_le_left _ _
     have hhx:hi≤xs.length:=by rw[←g1];exact hhl
     have hint: ∀w1:World,AVRel w1 μ ok (.one (.int .i64 ((n:Nat):Int))) (goInt n):=fun w1=>by
      refine⟨rfl, ?_⟩
      unfold IntKind.has IntKind.min IntKind.max;simp [IntKind.signed,IntKind.bits];omega
     have hnl:(news.take (n*ei.size)).length=n*ei.size:=by
      rw[List.length_take,src.len,←hes]
      exact Nat.min_eq_left (Nat.mul_le_mul_right _ hny)
     have hfc:(Builtin.firstCells ei.size n (.slice A ys.length c)).run P w= .ok (news.take (n*ei.size)).toArray w:=by
      cases A with
      |none=>
       have:ys=[]:=src.nil rfl
       subst this
       obtain rfl:n=0:=by simpa using hny
       simp [Builtin.firstCells]
      |some ad=>
       refine run_firstCells_some w ei.size n ad ys.length c _ hnl fun j v hj=> ?_
       rw[List.getElem?_take]at hj
       split at hj
       ·exact src.cells ad rfl j v hj
       ·cases hj
     have hyt:(ys.take (hi-lo)).length=n:=by rw[List.length_take,Nat.min_comm,hn]
     have hlt0:(xs.take lo).length=lo:=by rw[List.length_take];omega
     have hlen:(xs.take lo++(ys.take (hi-lo)++xs.drop (lo+n))).length=xs.length:=by rw[List.length_append,List.length_append,hlt0,hyt,List.length_drop];omega
     rw[←hn]
     rcases g4 with⟨k1,hxs,k3⟩|⟨b,cur,E,k1,k2,k3,k4⟩
     ·rw[hb0']at k1;cases k1
     ·rw[hb0']at k1
      cases k1
      have hfit:lo*t.size+0+(news.take (n*ei.size)).length≤cur.size:=by
       rw[hnl,hes]
       have:=Nat.mul_le_mul_right t.size (show lo+n≤(μ r).cap by omega)
       rw[Nat.add_mul]at this
       omega
      obtain⟨w1,c',e1,e2,e3,e4,e5,e6,e7,e8⟩:=run_storeCells (P:=P) b0 E (news.take (n*ei.size)) (lo*t.size) 0 w cur k2 hfit (fun v hv=>src.one v (List.mem_of_mem_take hv))
      have hc': ∀k,c'[k]? =if lo*t.size≤k∧k<lo*t.size+n*t.size then news[k-lo*t.size]? else cur[k]? :=by
       intro k
       rw[←Array.getElem?_toList,e3,getElem?_splice _ _ _ _ (by simpa using hfit)]
       rw[hnl,hes]
       simp only[Nat.add_zero,Array.getElem?_toList]
       split
       ·rename_i hk;rw[List.getElem?_take,if_pos (by omega)]
       ·rfl
      have F1:Facts mine w0 (St.upd st r (.arr f t (xs.take lo++(ys.take (hi-lo)++xs.drop (lo+n))))) a.tmps w1 μ ok:=by
       refine F.store hro hb0' e4 e5 e6 e7 e8 rfl ?_ ⟨by rw[hlen];exact g1,g2,g3,.inr ⟨b0,c',E,hb0',e2, ?_,fun j hj=> ?_⟩⟩
       ·intro hg
        have:=F.slots r
        rw[ow_at hr hg]at this
        exact this
       ·have:c'.size=cur.size:=by
         have:=congrArg List.length e3
         simp at this;simp at hfit;omega
        rw[this];exact k3
       ·have hj':j<xs.length:=by rw[hlen]at hj;exact hj
        by_cases hjl:j<lo
        ·obtain⟨cs,t1,t2⟩:=k4 j hj'
         refine⟨cs, ?_,fun q hq=> ?_⟩
         ·rw[List.getElem_append_left (by rw[hlt0];exact hjl),List.getElem_take];exact TRel.flat hf t1
         ·have hq':q<t.size:=by rw[←t1.length];exact hq
          have:(j+1)*t.size≤lo*t.size:=Nat.mul_le_mul_right _ (by omega)
          rw[Nat.succ_mul]at this
          rw[hc',if_neg (by omega)];exact t2 q hq
        ·by_cases hjn:j<lo+n
         ·have hjy:j-lo<ys.length:=by omega
          obtain⟨cs,t1,t2⟩:=src.elems (j-lo) hjy
          refine⟨cs, ?_,fun q hq=> ?_⟩
          ·rw[List.getElem_append_right (by rw[hlt0];omega)]
           simp only[hlt0]
           rw[List.getElem_append_left (by rw[hyt];omega),List.getElem_take];exact TRel.flat hf t1
          ·have hq':q<t.size:=by rw[←t1.length];exact hq
           obtain⟨i,rfl⟩: ∃i,j=lo+i:=⟨j-lo,by omega⟩
           have:(i+1)*t.size≤n*t.size:=Nat.mul_le_mul_right _ (by omega)
           rw[Nat.succ_mul]at this
           have e0:=t2 q hq
           rw[Nat.add_sub_cancel_left]at e0
           rw[hc',Nat.add_mul,if_pos (by omega),show lo*t.size+i*t.size+q-lo*t.size=i*t.size+q by omega];exact e0
         ·obtain⟨cs,t1,t2⟩:=k4 j hj'
          refine⟨cs, ?_,fun q hq=> ?_⟩
          ·rw[List.getElem_append_right (by rw[hlt0];omega)]
           simp only[hlt0]
           rw[List.getElem_append_right (by rw[hyt];omega),List.getElem_drop]
           simp only[hyt,show lo+n+(j-lo-n)=j by omega]
           exact TRel.flat hf t1
          ·have hq':q<t.size:=by rw[←t1.length];exact hq
           have:(lo+n)*t.size≤j*t.size:=Nat.mul_le_mul_right _ (by omega)
           rw[Nat.add_mul]at this
           rw[hc',if_neg (by omega)];exact t2 q hq
      obtain⟨μ',F2⟩:=F1.putNew d (NewRel.of_av rfl (hint w1))
      refine⟨_,w1,μ', ?_,F2⟩
      have hmin:min ys.length (hi-lo)=n:=hn.symm
      have hmin':Nat.min ys.length (hi-lo)=n:=hn.symm
      simp [Builtin.copy_,underlying,hu,sizeOf,typeInfo,hei,Builtin.lenOf,hmin,hmin',hfc,e1]
   ·cases h
  ·cases h
 ·cases h
theorem map_sound (hP:TabOk P tb) (F:Facts mine w0 st a.tmps w μ ok) {T:TypeId} {m k x:AV} {mv kv xv:Value} (hm:AVRel w μ ok m mv) (hk:AVRel w μ ok k kv) (hx:AVRel w μ ok x xv) {st':St}
 (h:mdMap tb st T m k x=some (true,st')): ∃w1,(Instr.mapUpdate T mv kv xv).run P w= .ok () w1∧Facts mine w0 st' a.tmps w1 μ ok:=by
 unfold mdMap at h
 split at h
 ·rename_i kt vt s hT
  split at h
  ·rename_i fr kt' vt' es hs
   split at h
   ·rename_i es' y f z g hc hy hz
    simp only[Option.some.injEq,Prod.mk.injEq,true_and]at h
    subst h
    obtain⟨rfl,rfl,e⟩:=castM_eq hc
    obtain rfl:es=es':=e
    obtain⟨b,hb,hmr⟩:=mapO_of F hs
    obtain⟨b',hb',rfl⟩:=(hm:SVRel0 w μ ok (.mref s) mv)
    rw[hb]at hb';cases hb'
    obtain⟨i,kT,vT,vi,zv,_,_,_,h4,hK,_⟩:=hP T _ hT
    have hso:(st.ow s).isOwner=true:=by rw[hs];rfl
    obtain⟨w1,e1,e4,e5,e6,e7,e8,e9⟩:=mapUpdate_run (P:=P) F.okT h4 hK hmr (toD_rel F.okT hk hy) (toD_rel F.okT hx hz) (F.ownB s b hso hb).2.2
    refine⟨w1,e1,F.store hso hb e4 e5 e6 e7 e8 rfl ?_ ⟨b,hb,e9⟩⟩
    intro hg
    have:=F.slots s
    rw[ow_at hs hg]at this
    exact this
   ·cases h
  ·cases h
 ·cases h
end
end Go.AM
