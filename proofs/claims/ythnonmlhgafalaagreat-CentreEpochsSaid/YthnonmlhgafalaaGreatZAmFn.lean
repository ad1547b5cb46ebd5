import Derived.Test.YthnonmlhgafalaaGreatZAmDraw
import Derived.Deep.LoopGhost
set_option linter.unusedVariables false
set_option linter.unusedSectionVars false
set_option linter.unusedSimpArgs false
namespace Go.AM
section
variable {P:Program} {mine:Cx} {w0:World} {st:St} {a:Act} {w:World} {μ:Locs} {ok:OK} {tb:Tab} {Γ:Orc}
variable {ρ:Type} [Same ρ] {out:ρ}
theorem normOne_sound (F:Facts mine w0 st a.tmps w μ ok) (i:Nat) (d:Dir): ∃μ',Facts mine w0 (normOne st i d) a.tmps w μ' ok:=by
 cases d with
 |keep=>exact⟨μ,F⟩
 |arr t=>
  simp only[normOne]
  split
  ·rename_i hs
   have hval:a.tmps.getD i undef= .slice none 0 0:=by have:=F.slots i;rw[hs]at this;exact this
   obtain⟨μ',F'⟩:=F.putNew i (v:= .arr true t []) (x:=a.tmps.getD i undef) ⟨⟨none,0,0⟩,hval,⟨rfl,Nat.le_refl _,by show(0:Nat)≤_;omega,.inl ⟨rfl,rfl,rfl⟩⟩,fun b hb=>by cases hb⟩
   rw[set_getD_self]at F'
   exact⟨μ',F'⟩
  ·rename_i s hs
   split
   ·rename_i fr t' xs hr
    cases hb:Nat.beq s i with
    |true=>exact⟨μ,F⟩
    |false=>
     simp only[cond_false]
     have hso:(st.ow s).isOwner=true:=by rw[hr];rfl
     have F1:=F.drop s
     have hval:a.tmps.getD i undef=slv (μ s) none:=by have:=F.slots i;rw[hs]at this;exact this.1
     have hnew:NewRel mine w0 (St.upd (st.kill s) s .junk) w μ ok (.arr fr t' xs) (a.tmps.getD i undef):=by
      refine⟨μ s,hval,arr_of F hr,fun b hb=> ?_⟩
      have hB:=F.ownB s b hso hb
      exact⟨hB.1,hB.2.1,hB.2.2,fun j hj hjb=>(drop_owner hj).1 (F.inj j s b (drop_owner hj).2 hso hjb hb)⟩
     obtain⟨μ',F'⟩:=F1.putNew i hnew
     rw[set_getD_self]at F'
     exact⟨μ',F'⟩
   ·exact⟨μ,F⟩
  ·exact⟨μ,F⟩
theorem norm_sound (ds:List (Nat×Dir)): ∀ {st:St} {μ:Locs},Facts mine w0 st a.tmps w μ ok→ ∃μ',Facts mine w0 (norm ds st) a.tmps w μ' ok:=by
 induction ds with
 |nil=>intro st μ F;exact⟨μ,F⟩
 |cons p ds ih=>
  intro st μ F
  obtain⟨μ',F'⟩:=normOne_sound F p.1 p.2
  exact ih F'
theorem norm_length (ds:List (Nat×Dir)): ∀(st:St),(norm ds st).length=st.length:=by
 induction ds with
 |nil=>intro st;rfl
 |cons p ds ih=>
  intro st
  show(norm ds (normOne st p.1 p.2)).length=_
  rw[ih]
  unfold normOne
  split
  ·rfl
  ·split
   ·exact St.length_put _ _ _
   ·split
    ·cases Nat.beq _ _ with
     |true=>rfl
     |false=>simp only[cond_false];rw[St.length_put,St.length_upd,St.length_kill]
    ·rfl
   ·rfl
theorem embGo_get (e:AV) (ds:List (Nat×Dir)) (vs:List AV): ∀(n i k:Nat),k<n→(embGo e ds vs i n)[k]? =some (lookV e ds vs (i+k)):=by
 intro n
 induction n with
 |zero=>intro i k h;omega
 |succ n ih=>
  intro i k h
  cases k with
  |zero=>rfl
  |succ k=>simp only[embGo,List.getElem?_cons_succ];rw[ih (i+1) k (by omega),Nat.add_assoc,Nat.add_comm 1 k]
theorem embGo_length (e:AV) (ds:List (Nat×Dir)) (vs:List AV): ∀(n i:Nat),(embGo e ds vs i n).length=n:=by
 intro n
 induction n with
 |zero=>intro i;rfl
 |succ n ih=>intro i;simp [embGo,ih]
theorem look_atAll (e:AV) (st:St) (i:Nat): ∀ds:List (Nat×Dir),lookV e ds (atAll st ds) i=st.at i∨lookV e ds (atAll st ds) i=e:=by
 intro ds
 induction ds with
 |nil=>exact .inr rfl
 |cons p ds ih=>
  obtain⟨j,d⟩:=p
  simp only[atAll,lookV]
  cases hb:Nat.beq j i with
  |true=>obtain rfl:=Nat.eq_of_beq_eq_true hb;exact .inl rfl
  |false=>exact ih
theorem live_sound (F:Facts mine w0 st a.tmps w μ ok) (ds:List (Nat×Dir)) {n g:Nat} (hm:mine.n=n∧mine.m≤n+g) (hn:n+g≤st.length): ∃μ',Facts mine w0 (emb n g ds (liveOf ds st)) a.tmps w μ' ok:=by
 obtain⟨μ',F'⟩:=norm_sound ds F
 have hlen:(emb n g ds (liveOf ds st)).length=n+g:=by unfold emb;rw[List.length_append,embGo_length,embGo_length]
 refine⟨μ',F'.less (by rw[hlen,norm_length];exact hn) (by rw[hlen];omega) fun i=> ?_⟩
 by_cases hi:i<n
 ·have:St.at (emb n g ds (liveOf ds st)) i=lookV (.one .junk) ds (liveOf ds st) i:=by
   unfold St.at emb
   rw[List.getD_eq_getElem?_getD,List.getElem?_append_left (by rw[embGo_length];exact hi),embGo_get _ _ _ _ _ _ hi,Nat.zero_add];rfl
  rw[this]
  rcases look_atAll (.one .junk) (norm ds st) i ds with h|h
  ·exact .inl h
  ·exact .inr (.inl ⟨h,.inl (F'.real i (by omega))⟩)
 ·by_cases hi2:i<n+g
  ·have:St.at (emb n g ds (liveOf ds st)) i=lookV (.gho .none) ds (liveOf ds st) i:=by
    unfold St.at emb
    rw[List.getD_eq_getElem?_getD,List.getElem?_append_right (by rw[embGo_length];omega),embGo_length,embGo_get _ _ _ _ _ _ (by omega),show n+(i-n)=i by omega];rfl
   rw[this]
   rcases look_atAll (.gho .none) (norm ds st) i ds with h|h
   ·exact .inl h
   ·exact .inr (.inr ⟨h,F'.gho i (by omega) (by rw[norm_length];omega)⟩)
  ·exact .inr (.inl ⟨St.at_out _ _ (by rw[hlen];omega),.inr (by rw[hlen];omega)⟩)
def ex:AE→Exit
 | .normal=> .normal
 | .exit id=> .exit id
 | .ret=> .ret
def GoesE (ds:List Deferred) (mine:Cx) (w0:World) (K:AE→St→Option ρ) (out:ρ) (Q:Exit→Act→World→Prop):Prop:=
 ∀e st' tm' w' μ' ok',Facts mine w0 st' tm' w' μ' ok'→K e st'=some out→Q (ex e) ⟨tm',ds⟩ w'
theorem act_eta {ds:List Deferred} (h:a.defers=ds):a=⟨a.tmps,ds⟩:=by cases a;simp at h;simp [h]
theorem aexec_sound {ds:List Deferred} (hM:P.follows .mixedOrders=true) (hP:TabOk P tb) (hΓ:OrcFit P Γ mine) (ms:Lay) (hms:mine.n=ms.n∧mine.m≤ms.n+ms.g) (Λ:Lam ρ): ∀(c:Code) (cur:Nat) (st:St) (tm:Array Value) (w:World) (μ:Locs) (ok:OK) (K:AE→St→Option ρ) (Q:Exit→Act→World→Prop),
 (∀p∈loopsOf cur c,LoopP tb Γ Λ ms p)→Facts mine w0 st tm w μ ok→aexec tb Γ Λ ms c cur st K=some out→GoesE ds mine w0 K out Q→(∀c a w,¬Q (.panic c) a w)→c.wp P Q ⟨tm,ds⟩ w:=by
 intro c
 induction c with
 |skip=>intro cur st tm w μ ok K Q hL F h hK hQ;exact wp_skip (hK .normal _ _ _ _ _ F h)
 |region id ops draw=>
  intro cur st tm w μ ok K Q hL F h hK hQ
  cases draw with
  |true=>exact wp_region_any hM (drawRegion_sound (a:=⟨tm,ds⟩) hP hΓ hQ F.drew h fun st' tm' w' μ' ok' F' h'=>hK .normal _ _ _ _ _ F' h')
  |false=>
   exact wp_region (runE_sound hP hΓ ops.toList.length ops.toList _ st [] ⟨tm,ds⟩ w μ ok (K .normal) (Nat.le_refl _) (range_all2 ops) F EOk.nil h fun st' tm' w' μ' ok' F' h'=>hK .normal _ _ _ _ _ F' h')
 |seq x y ihx ihy=>
  intro cur st tm w μ ok K Q hL F h hK hQ
  refine wp_seq (ihx cur st tm w μ ok _ _ (fun p hp=>hL p (List.mem_append_left _ hp)) F h ?_ fun c a w h=>hQ c a w h)
  intro e st' tm' w' μ' ok' F' h'
  cases e with
  |normal=>exact ihy cur st' tm' w' μ' ok' K Q (fun p hp=>hL p (List.mem_append_right _ hp)) F' h' hK hQ
  |exit id=>exact hK (.exit id) _ _ _ _ _ F' h'
  |ret=>exact hK .ret _ _ _ _ _ F' h'
 |cond c x y ihx ihy=>
  intro cur st tm w μ ok K Q hL F h hK hQ
  simp only[aexec]at h
  split at h
  ·rename_i b hb
   have hc:=rd_bool (a:=⟨tm,ds⟩) F hb
   have Fc: ∀b',b=b'→Facts mine w0 (condSt st c b') tm w μ ok:=by
    intro b' e
    subst e
    unfold condSt
    split
    ·rename_i t
     have hold:(st.at t).isOwner=false:=by
      have h1:rdSlot st t= .one (.bool b):=hb
      unfold rdSlot at h1
      cases hs:st.at t with
      |own cs=>rw[hs]at h1;cases h1
      |arr f ty xs=>rw[hs]at h1;cases h1
      |mapO f kt vt es=>rw[hs]at h1;cases h1
      |gho o=>rw[hs]at h1;cases h1
      |one x=>rfl
      |agg cs=>rfl
      |tup l=>rfl
     exact F.setV t (bool_not_gho F hc) hold rfl hc
    ·exact F
   refine wp_cond hc ?_
   cases b with
   |true=>simp only[cond_true]at h;exact ihx cur _ tm w μ ok K Q (fun p hp=>hL p (List.mem_append_left _ hp)) (Fc true rfl) h hK hQ
   |false=>simp only[cond_false]at h;exact ihy cur _ tm w μ ok K Q (fun p hp=>hL p (List.mem_append_right _ hp)) (Fc false rfl) h hK hQ
  ·cases h
 |block id body ih=>
  intro cur st tm w μ ok K Q hL F h hK hQ
  refine wp_block (ih id st tm w μ ok _ _ hL F h ?_ fun c a w h=>hQ c a w h)
  intro e st' tm' w' μ' ok' F' h'
  cases e with
  |normal=>exact hK .normal _ _ _ _ _ F' h'
  |exit j=>
   simp only[blockK]at h'
   show Exit.inBlock id Q (.exit j) ⟨tm',ds⟩ w'
   by_cases hj:j=id
   ·subst hj
    have:Nat.beq j j=true:=Nat.beq_refl j
    rw[this]at h'
    simp only[Exit.inBlock,if_true]
    exact hK .normal _ _ _ _ _ F' h'
   ·have:Nat.beq j id=false:=by
     cases hb:Nat.beq j id with
     |true=>exact absurd (Nat.eq_of_beq_eq_true hb) hj
     |false=>rfl
    rw[this]at h'
    simp only[Exit.inBlock,if_neg hj]
    exact hK (.exit j) _ _ _ _ _ F' h'
  |ret=>exact hK .ret _ _ _ _ _ F' h'
 |loop body ih=>
  intro cur st tm w μ ok K Q hL F h hK hQ
  simp only[aexec]at h
  cases hc:Nat.ble (ms.n+ms.g) st.length with
  |false=>rw[hc]at h;cases h
  |true=>
   rw[hc]at h
   simp only[cond_true]at h
   have hlen:ms.n+ms.g≤st.length:=Nat.le_of_ble_eq_true hc
   obtain⟨fuel,h⟩:=hL (cur,body) (by simp [loopsOf]) _ _ _ h
   obtain⟨μ1,F1⟩:=live_sound (a:=⟨tm,ds⟩) F (ms.get cur) hms hlen
   refine wp_loop_ghost (fun n a w=> ∃vs μ ok,Facts mine w0 (emb ms.n ms.g (ms.get cur) vs) a.tmps w μ ok∧a.defers=ds∧
    loopN (aexec tb Γ Λ ms body cur) ms.n ms.g (ms.get cur) (fun e vs=>K e (emb ms.n ms.g (ms.get cur) vs)) n vs=some out) fuel ⟨_,μ1,ok,F1,rfl,h⟩ ?_
   intro n a w hI
   obtain⟨vs,μ,ok,F,hd,h⟩:=hI
   cases n with
   |zero=>simp [loopN]at h
   |succ k=>
    simp only[loopN]at h
    rw[act_eta hd]
    refine ih cur _ a.tmps w μ ok _ _ (fun p hp=>hL p (by simp [loopsOf,hp])) F h ?_ fun c a w h=>hQ c a w h
    intro e st' tm' w' μ'' ok'' F'' h''
    cases hcl:Nat.ble (ms.n+ms.g) st'.length with
    |false=>simp only[hcl,cond_false]at h'';cases h''
    |true=>
    simp only[hcl,cond_true]at h''
    have hlen':ms.n+ms.g≤st'.length:=Nat.le_of_ble_eq_true hcl
    obtain⟨μ2,F2⟩:=live_sound (a:=⟨tm',ds⟩) F'' (ms.get cur) hms hlen'
    cases e with
    |normal=>exact⟨k,Nat.lt_succ_self k,_,μ2,ok'',F2,rfl,h''⟩
    |exit id=>exact hK (.exit id) _ _ _ _ _ F2 h''
    |ret=>exact hK .ret _ _ _ _ _ F2 h''
 |rangeFunc f ps x y _ _=>intro cur st tm w μ ok K Q hL F h hK hQ;cases h
 |exit id=>intro cur st tm w μ ok K Q hL F h hK hQ;exact wp_exit (hK (.exit id) _ _ _ _ _ F h)
 |scope body _=>intro cur st tm w μ ok K Q hL F h hK hQ;cases h
 |label l=>intro cur st tm w μ ok K Q hL F h hK hQ;cases h
 |goto l=>intro cur st tm w μ ok K Q hL F h hK hQ;cases h
 |ret=>intro cur st tm w μ ok K Q hL F h hK hQ;exact wp_ret (hK .ret _ _ _ _ _ F h)
 |refuse why=>intro cur st tm w μ ok K Q hL F h hK hQ;cases h
end
def resCap (st:St):Cap→Option Cap
 | .ref s off=>
   match st.ow s,off with
   | .own cs,0=>
     match tyOf cs with
     |some (f,⟨t,x⟩)=>some (.ptrD f t x)
     |none=>none
   |_,_=>none
 |c=>some c
def resCaps (st:St):List Cap→Option (List Cap)
 |[]=>some []
 |c::r=>
  match resCap st c,resCaps st r with
  |some x,some y=>some (x::y)
  |_,_=>none
def resS (st:St):SV→Option SV
 | .ptr s off=>
   match st.ow s with
   | .own cs=>
     match tyOf cs with
     |some (f,⟨t,x⟩)=>some (.rp f t x off)
     |none=>none
   |_=>none
 | .hot s n=>
   match st.ow s with
   | .arr f t xs=>some (.sl f t none (match n with|none=>xs|some n=>xs.take n))
   |_=>none
 | .mref s=>
   match st.ow s with
   | .mapO fr kt vt es=>some (.sm fr kt vt es)
   |_=>none
 | .hptr _ _ _ _=>none
 | .aptr _ _ _ _=>none
 | .cut _ _ _ _=>none
 | .gp _ _ _=>none
 | .fn f caps=>
   match resCaps st caps with
   |some cs=>some (.fn f cs)
   |none=>none
 | .junk=>none
 |v=>some v
def resL (st:St):List SV→Option (List SV)
 |[]=>some []
 |v::r=>
  match resS st v,resL st r with
  |some x,some y=>some (x::y)
  |_,_=>none
def resVar (tb:Tab) (st:St):ResultVar→Option AV
 | .tmp t=>some (rdSlot st t)
 | .cell t T=>
   match evLoad tb st T (rdSlot st t)with
   |some (true,v)=>some v
   |_=>none
def resComp (st:St):AV→Option (Bool×List SV)
 | .one .junk=>none
 | .one v=>
   match resS st v with
   |some x=>some (false,[x])
   |none=>none
 | .agg cs=>
   match resL st cs with
   |some x=>some (true,x)
   |none=>none
 |_=>none
def resOne (st:St):AV→Option AV
 | .one (.hot s none)=>
   match st.ow s with
   | .arr f t xs=>some (.arr f t xs)
   |_=>none
 | .one (.mref s)=>
   match st.ow s with
   | .mapO fr kt vt es=>some (.mapO fr kt vt es)
   |_=>none
 |v=>
  match resComp st v with
  |some (true,cs)=>some (.agg cs)
  |some (false,[x])=>some (.one x)
  |_=>none
def resComps (tb:Tab) (st:St):List ResultVar→Option (List (Bool×List SV))
 |[]=>some []
 |r::l=>
  match resVar tb st r with
  |some v=>
   match resComp st v,resComps tb st l with
   |some x,some y=>some (x::y)
   |_,_=>none
  |none=>none
def resAV (tb:Tab) (st:St):List ResultVar→Option AV
 |[r]=>
  match resVar tb st r with
  |some v=>resOne st v
  |none=>none
 |l=>
  match resComps tb st l with
  |some x=>some (.tup x)
  |none=>none
def Kret (tb:Tab) (rs:List ResultVar):AE→St→Option AV
 | .normal,st=>resAV tb st rs
 | .ret,st=>resAV tb st rs
 | .exit _,_=>none
def st0 (args:List AV) (n:Nat):St:=args++List.replicate (n-args.length) (.one .junk)
section
variable {P:Program} {mine:Cx} {w0:World} {st:St} {a:Act} {w:World} {μ:Locs} {ok:OK} {tb:Tab} {Γ:Orc}
def okR (w0 w:World) (ok:OK):OK:=fun fr b=>ok fr b∨(w0.heap.size≤b∧b<w.heap.size)
theorem resCaps_rel (F:Facts mine w0 st a.tmps w μ ok) (hm: ∀b,¬mine.mine b): ∀ {caps cs:List Cap} {vs:List Value},All2 (CapRel w μ ok) caps vs→resCaps st caps=some cs→All2 (CapRel w μ0 (okR w0 w ok)) cs vs:=by
 have up: ∀f b,ok f b→okR w0 w ok f b:=fun f b h=> .inl h
 intro caps
 induction caps with
 |nil=>intro cs vs h he;simp only[resCaps,Option.some.injEq]at he;subst he;cases h;exact .nil
 |cons c caps ih=>
  intro cs vs h he
  cases h with
  | @cons _ v _ vs hv hvs=>
    simp only[resCaps]at he
    split at he
    ·rename_i x y h1 h2
     cases he
     refine .cons ?_ (ih hvs h2)
     cases c with
     |ref s off=>
      simp only[resCap]at h1
      split at h1
      ·rename_i ocs hs
       split at h1
       ·rename_i f t z ht
        cases h1
        obtain⟨b,c,E,k1,k2,k3⟩:=ownCells F hs
        obtain⟨b',k1',rfl⟩:=hv
        rw[k1]at k1';cases k1'
        have hB:=F.ownB s b (by rw[hs];rfl) k1
        refine⟨b,0,c.toList,rfl,.inr ⟨hB.2.1.resolve_right (hm b),hB.1⟩,TRel.mono (fun _ _=>rfl) (up f) (tyOf_rel F.okT k3 ht),fun q hq=> ?_⟩
        rw[cell_block k2,Nat.zero_add]
        simp only[Array.length_toList]at hq
        simp [hq]
       ·cases h1
      ·cases h1
     |ptrD f t z=>
      cases h1
      obtain⟨b,o,us,e,k1,k2,k3⟩:=hv
      exact⟨b,o,us,e,up _ _ k1,TRel.mono (fun _ _=>rfl) (up f) k2,k3⟩
     |valD f t z=>
      cases h1
      exact CapRel.mono (fun _ _ _=>rfl) (fun fr b h=>up fr b h) (fun s hs=>by cases hs) hv
    ·cases he
theorem resS_rel (F:Facts mine w0 st a.tmps w μ ok) (hm: ∀b,¬mine.mine b) {x y:SV} {v:Value} (h:SVRel w μ ok x v) (he:resS st x=some y):SVRel w μ0 (okR w0 w ok) y v∧y≠ .junk:=by
 have up: ∀f b,ok f b→okR w0 w ok f b:=fun f b h=> .inl h
 cases x with
 |junk=>cases he
 |bool b=>cases he;exact⟨h,by simp⟩
 |int k n=>cases he;exact⟨h,by simp⟩
 |str s=>cases he;exact⟨h,by simp⟩
 |nilp=>cases he;exact⟨h,by simp⟩
 |nils=>cases he;exact⟨h,by simp⟩
 |nilf=>cases he;exact⟨h,by simp⟩
 |nilm=>cases he;exact⟨h,by simp⟩
 |sm fr kt vt es=>
  cases he
  refine⟨?_,by simp⟩
  rcases(h:SVRel0 w μ ok (.sm fr kt vt es) v)with h|⟨b,e,hb,h⟩
  ·exact .inl h
  ·exact .inr ⟨b,e,up fr b hb,h.mono (fun _ _=>rfl) (up fr) rfl⟩
 |mref s=>
  simp only[resS]at he
  split at he
  ·rename_i fr kt vt es hs
   cases he
   obtain⟨b,k1,k2⟩:=mapO_of F hs
   obtain⟨b',k1',rfl⟩:=(h:SVRel0 w μ ok (.mref s) v)
   rw[k1]at k1';cases k1'
   have hB:=F.ownB s b (by rw[hs];rfl) k1
   exact⟨.inr ⟨b,rfl,.inr ⟨hB.2.1.resolve_right (hm b),hB.1⟩,k2.mono (fun _ _=>rfl) (up fr) rfl⟩,by simp⟩
  ·cases he
 |sl fr t nl xs=>cases he;exact⟨⟨TRel.mono (fun _ _=>rfl) (up fr) h.1,h.2⟩,by simp⟩
 |rp fr t z off=>
  cases he
  obtain⟨b,o,cs,e,h1,h2,h3⟩:=h
  exact⟨⟨b,o,cs,e,up fr b h1,TRel.mono (fun _ _=>rfl) (up fr) h2,h3⟩,by simp⟩
 |ptr s off=>
  simp only[resS]at he
  split at he
  ·rename_i cs hs
   split at he
   ·rename_i f t z ht
    cases he
    obtain⟨b,c,E,k1,k2,k3⟩:=ownCells F hs
    obtain⟨b',k1',rfl⟩:=h
    rw[k1]at k1';cases k1'
    have hB:=F.ownB s b (by rw[hs];rfl) k1
    refine⟨⟨b,0,c.toList,by simp,.inr ⟨hB.2.1.resolve_right (hm b),hB.1⟩,TRel.mono (fun _ _=>rfl) (up f) (tyOf_rel F.okT k3 ht),fun q hq=> ?_⟩,by simp⟩
    rw[cell_block k2,Nat.zero_add]
    simp only[Array.length_toList]at hq
    simp [hq]
   ·cases he
  ·cases he
 |aptr s base len idx=>cases he
 |gp g len i=>cases he
 |hptr s sz i off=>cases he
 |cut s sz lo hi=>cases he
 |hot s n=>
  simp only[resS]at he
  split at he
  ·rename_i f t xs hs
   cases he
   have hr:=arr_of F hs
   obtain⟨rfl,hml,hb⟩:=h
   have hbl: ∀b,(μ s).b=some b→okR w0 w ok f b:=fun b hb'=>by
    have hB:=F.ownB s b (by rw[hs];rfl) hb'
    exact .inr ⟨hB.2.1.resolve_right (hm b),hB.1⟩
   refine⟨⟨?_,trivial⟩,by simp⟩
   cases n with
   |none=>
    have:=slv_rel hr (up f) hbl xs.length (Nat.le_refl _)
    rw[List.take_length]at this
    unfold slv
    rw[Option.getD_none,hr.1];exact this
   |some m=>
    have hml:=hml m rfl
    exact slv_rel hr (up f) hbl m (by rw[←hr.1];exact hml)
  ·cases he
 |fn f caps=>
  simp only[resS]at he
  split at he
  ·rename_i cs hc
   cases he
   obtain⟨vs,e,hh⟩:=h
   exact⟨⟨vs,e,resCaps_rel F hm hh hc⟩,by simp⟩
  ·cases he
theorem resL_rel (F:Facts mine w0 st a.tmps w μ ok) (hm: ∀b,¬mine.mine b): ∀ {xs ys:List SV} {vs:List Value},All2 (SVRel w μ ok) xs vs→resL st xs=some ys→All2 (SVRel w μ0 (okR w0 w ok)) ys vs:=by
 intro xs
 induction xs with
 |nil=>intro ys vs h he;simp only[resL,Option.some.injEq]at he;subst he;cases h;exact .nil
 |cons x xs ih=>
  intro ys vs h he
  cases h with
  |cons hx hxs=>
   simp only[resL]at he
   split at he
   ·rename_i y ys' h1 h2
    cases he
    exact .cons (resS_rel F hm hx h1).1 (ih hxs h2)
   ·cases he
def runVar (tm:Array Value):ResultVar→Sem Value
 | .tmp t=>pure (tm.getD t undef)
 | .cell p T=>do loadVar T (←asAddr (tm.getD p undef))
theorem results_eq (fn:Func) (tm:Array Value):results fn tm=(do
 let vs ←fn.results.mapM (runVar tm)
 pure (if h:vs.size=1 then vs[0]else .tuple vs)):=by
 unfold results
 congr 1
theorem resVar_rel (hP:TabOk P tb) (F:Facts mine w0 st a.tmps w μ ok) {r:ResultVar} {v:AV} (h:resVar tb st r=some v):
 ∃x,(runVar a.tmps r).run P w= .ok x w∧AVRel w μ ok v x:=by
 cases r with
 |tmp t=>cases h;exact⟨_,rfl,rdSlot_rel F t⟩
 |cell p T=>
  simp only[resVar]at h
  split at h
  ·rename_i v' he
   cases h
   have hp:=rdSlot_rel F p
   unfold evLoad at he
   split at he
   ·rename_i ti q hT hq
    split at he
    ·rename_i cs hc
     cases hn:Nat.beq cs.length ti.size with
     |false=>simp only[hn,cond_false]at he;cases he
     |true=>
      have hn':=Nat.eq_of_beq_eq_true hn
      simp only[hn,cond_true]at he
      split at he
      ·rename_i v'' hv
       simp only[Option.some.injEq,Prod.mk.injEq,true_and]at he
       subst he
       have hj:q≠ .junk:=by intro e;subst e;simp [ldCells]at hc
       rw[hq]at hp
       obtain⟨b,o,vs,hpv,g1,g2,g3⟩:=ldCells_rel F (one_of hj hp) hc hn'
       obtain⟨ho,hr⟩:=asVal_rel g3 hv
       have hrun:=run_loadAt hP hT g1 g2 (by
        intro hf
        rcases hr with⟨e,_⟩|⟨_,x,e,_⟩
        ·rw[hf]at e;cases e
        ·exact⟨x,e⟩)
       have hrun':(do loadVar T (←asAddr (a.tmps.getD p undef)):Sem Value).run P w= .ok (if ti.isAgg=true then .agg vs.toArray else vs.headD undef) w:=by
        rw[hpv]
        simp only[asAddr,Sem.run_bind,Sem.run_pure,Result.andThen_ok]
        simpa [Instr.loadAt,Instr.sureAddr]using hrun
       rcases hr with⟨e,hr⟩|⟨e,x,rfl,hr⟩
       ·rw[e]at hrun';exact⟨_,hrun',hr⟩
       ·rw[e]at hrun';exact⟨_,hrun',hr⟩
      ·cases he
    ·cases he
   ·cases he
  ·cases h
theorem resComp_rel (F:Facts mine w0 st a.tmps w μ ok) (hm: ∀b,¬mine.mine b) {v:AV} {x:Value} {p:Bool×List SV} (hv:AVRel w μ ok v x) (h:resComp st v=some p):compRel w μ0 (okR w0 w ok) p x:=by
 unfold resComp at h
 split at h
 ·cases h
 ·rename_i y hy
  split at h
  ·rename_i z hz
   cases h
   have hj:y≠ .junk:=by intro e;subst e;simp [resS]at hz
   exact⟨z,rfl,(resS_rel F hm (one_of hj hv) hz).1⟩
  ·cases h
 ·rename_i cs
  split at h
  ·rename_i z hz
   cases h
   obtain⟨vs,e,hh⟩:=hv
   exact⟨vs,e,resL_rel F hm hh hz⟩
  ·cases h
 ·cases h
theorem okR_ok (F:Facts mine w0 st a.tmps w μ ok):(∀fr b,okR w0 w ok fr b→resOK w0 w mine.base fr b)∧(∀b,okR w0 w ok true b→okR w0 w ok false b):=by
 refine⟨fun fr b h=> ?_,fun b h=>h.imp (F.okT b) id⟩
 rcases h with h|h
 ·cases fr with
  |true=>exact .inl ⟨F.okF b h,F.okB b (F.okT b h)⟩
  |false=>exact(F.okS.old b h).imp (fun h'=>⟨h',F.okB b h⟩) (fun h'=>⟨rfl,h'⟩)
 ·exact .inl h
theorem resAV_rel (hP:TabOk P tb) (F:Facts mine w0 st a.tmps w μ ok) (hm: ∀b,¬mine.mine b) {fn:Func} {r:AV} (h:resAV tb st fn.results.toList=some r):
 ∃v,(results fn a.tmps).run P w= .ok v w∧ResRel w0 mine.base w r v:=by
 have all: ∀(l:List ResultVar) (ps:List (Bool×List SV)),resComps tb st l=some ps→ ∃vs:List Value,
  (l.mapM (runVar a.tmps)).run P w= .ok vs w∧All2 (compRel w μ0 (okR w0 w ok)) ps vs:=by
  intro l
  induction l with
  |nil=>intro ps he;simp only[resComps,Option.some.injEq]at he;subst he;exact⟨[],by simp,.nil⟩
  |cons r l ih=>
   intro ps he
   simp only[resComps]at he
   split at he
   ·rename_i v hv
    split at he
    ·rename_i x y h1 h2
     cases he
     obtain⟨z,e1,e2⟩:=resVar_rel hP F hv
     obtain⟨vs,e3,e4⟩:=ih y h2
     refine⟨z::vs, ?_,.cons (resComp_rel F hm e2 h1) e4⟩
     simp only[List.mapM_cons,Sem.run_bind]
     rw[e1]
     simp only[Result.andThen_ok,e3,Sem.run_pure]
    ·cases he
   ·cases he
 have res: ∀(vs:List Value),(fn.results.toList.mapM (runVar a.tmps)).run P w= .ok vs w→
  (results fn a.tmps).run P w= .ok (if h:vs.length=1 then vs[0]'(by omega)else .tuple vs.toArray) w:=by
  intro vs hvs
  rw[results_eq]
  have e:(fn.results.mapM (runVar a.tmps)).run P w= .ok vs.toArray w:=by
   conv=>lhs;rw[show fn.results=fn.results.toList.toArray by simp]
   rw[List.mapM_toArray]
   simp only[Sem.run_map,hvs,Result.andThen_ok]
  simp only[Sem.run_bind,e,Result.andThen_ok,Sem.run_pure]
  congr 1
 have tupCase: ∀ps,fn.results.toList.length≠1→resComps tb st fn.results.toList=some ps→r= .tup ps→ ∃v,(results fn a.tmps).run P w= .ok v w∧ResRel w0 mine.base w r v:=by
  intro ps hl he hr
  subst hr
  obtain⟨vs,e1,e2⟩:=all _ _ he
  have hlen:vs.length≠1:=by
   have h1:=e2.length
   have: ∀(l:List ResultVar) (ps:List (Bool×List SV)),resComps tb st l=some ps→l.length=ps.length:=by
    intro l
    induction l with
    |nil=>intro ps he;simp only[resComps,Option.some.injEq]at he;subst he;rfl
    |cons r l ih=>
     intro ps he
     simp only[resComps]at he
     split at he
     ·split at he
      ·rename_i h2;cases he;simp [ih _ h2]
      ·cases he
     ·cases he
   rw[←h1,←this _ _ he];exact hl
  have:=res vs e1
  rw[dif_neg hlen]at this
  exact⟨_,this,okR w0 w ok,(okR_ok F).1,(okR_ok F).2,vs,rfl,e2⟩
 unfold resAV at h
 split at h
 ·rename_i rv hl
  split at h
  ·rename_i v hv
   obtain⟨x,e1,e2⟩:=resVar_rel hP F hv
   have hrun:(results fn a.tmps).run P w= .ok x w:=by
    have:=res [x] (by
     rw[hl]
     simp only[List.mapM_cons,List.mapM_nil,Sem.run_bind]
     rw[e1]
     simp only[Result.andThen_ok,Sem.run_pure])
    simpa using this
   refine⟨x,hrun, ?_⟩
   unfold resOne at h
   split at h
   ·rename_i s
    split at h
    ·rename_i f t xs hs
     cases h
     obtain⟨rfl,_⟩:=(e2:SVRel w μ ok (.hot s none) x)
     refine⟨ok,fun fr b hb=> ?_,F.okT,μ s,rfl,arr_of F hs,fun b hb=> ?_⟩
     ·cases fr with
      |true=>exact .inl ⟨F.okF b hb,F.okB b (F.okT b hb)⟩
      |false=>exact(F.okS.old b hb).imp (fun h'=>⟨h',F.okB b hb⟩) (fun h'=>⟨rfl,h'⟩)
     ·have hB:=F.ownB s b (by rw[hs];rfl) hb
      exact⟨hB.2.1.resolve_right (hm b),hB.1,hB.2.2⟩
    ·cases h
   ·rename_i s
    split at h
    ·rename_i f kt vt es hs
     cases h
     obtain⟨b,k1,k2⟩:=mapO_of F hs
     obtain⟨b',k1',rfl⟩:=(e2:SVRel0 w μ ok (.mref s) x)
     rw[k1]at k1';cases k1'
     have hB:=F.ownB s b (by rw[hs];rfl) k1
     refine⟨ok,fun fr b hb=> ?_,F.okT,b,rfl,k2,hB.2.1.resolve_right (hm b),hB.1,hB.2.2⟩
     cases fr with
     |true=>exact .inl ⟨F.okF b hb,F.okB b (F.okT b hb)⟩
     |false=>exact(F.okS.old b hb).imp (fun h'=>⟨h',F.okB b hb⟩) (fun h'=>⟨rfl,h'⟩)
    ·cases h
   ·split at h
    ·rename_i cs hc
     cases h
     obtain⟨us,e,hu⟩:=resComp_rel F hm e2 hc
     exact⟨okR w0 w ok,(okR_ok F).1,(okR_ok F).2,us,e,hu⟩
    ·rename_i y hc
     cases h
     obtain⟨z,e,hz⟩:=resComp_rel F hm e2 hc
     cases e
     refine⟨okR w0 w ok,(okR_ok F).1,(okR_ok F).2, ?_⟩
     by_cases hj:y= .junk
     ·subst hj;trivial
     ·show AVRel w μ0 (okR w0 w ok) (.one y) x
      rw[AVRel.eq1 hj];exact hz
    ·cases h
  ·cases h
 ·rename_i hne
  split at h
  ·rename_i ps hps
   cases h
   refine tupCase ps (fun hl=> ?_) hps rfl
   match hq:fn.results.toList,hl with
   |[rv],_=>exact hne rv hq
  ·cases h
theorem good_of (hM:P.follows .mixedOrders=true) (hP:TabOk P tb) (hΓ:OrcOk P Γ) {f:FuncId} {fn:Func} {c:Code} {n:Nat} {rs:List ResultVar} (hf:P.funcs[f]? =some fn) (hb:fn.body=some c) (hn:fn.ntmps=n) (hrs:fn.results.toList=rs)
 (args:List AV) (hl:args.length≤n) (ms:Lay) (hms:n=ms.n) (Λ:Lam AV) (hL: ∀p∈loopsOf 0 c,LoopP tb Γ Λ ms p) {K:AE→St→Option AV} (hK: ∀e st r,K e st=some r→ ∃r0,Kret tb rs e st=some r0∧ ∀w okA w' v,ResRel w okA w' r0 v→ResRel w okA w' r v)
 {r:AV} (h:aexec tb Γ Λ ms c 0 (st0 args n) K=some r) (hlo:LoOk Γ n:=by exact lo_none rfl):Good P f args r:=by
 intro w okA vs hA hargs
 refine calls_of_wp hf hb ?_
 have hsz:vs.length=args.length:=hargs.length.symm
 let tm:Array Value:=vs.toArray++Array.replicate (fn.ntmps-vs.toArray.size) undef
 have htm:tm.toList=vs++List.replicate (n-args.length) undef:=by
  simp [tm,hn,hsz]
 have F:Facts ⟨none1,okA,n,n,fun _=>none⟩ w (st0 args n) tm w μ0 (argOK okA):=by
  have hat: ∀i,(∃x v,St.at (st0 args n) i=x∧tm.getD i undef=v∧AVRel w μ0 (argOK okA) x v)∨St.at (st0 args n) i= .one .junk:=by
   intro i
   unfold St.at st0
   rcases Nat.lt_or_ge i args.length with hi|hi
   ·left
    obtain⟨v,hv,hr⟩:=hargs.get i args[i] (List.getElem?_eq_getElem hi)
    refine⟨args[i],v,by simp [List.getD_eq_getElem?_getD,List.getElem?_append_left hi,hi], ?_,hr⟩
    rw[Array.getD_eq_getD_getElem?,←Array.getElem?_toList,htm,List.getElem?_append_left (by omega),hv];rfl
   ·right
    simp only[List.getD_eq_getElem?_getD,List.getElem?_append_right hi,List.getElem?_replicate]
    split<;>rfl
  have hno: ∀i,(St.at (st0 args n) i).isOwner=false:=by
   intro i
   rcases hat i with⟨x,v,rfl,_,hr⟩|h
   ·cases hx:St.at (st0 args n) i<;>first|rfl|(rw[hx]at hr;exact hr.elim)
   ·rw[h];rfl
  have hng: ∀i,(St.at (st0 args n) i).isGho=false:=by
   intro i
   rcases hat i with⟨x,v,rfl,_,hr⟩|h
   ·exact hr.noGho
   ·rw[h];rfl
  have how: ∀i,St.ow (st0 args n) i=St.at (st0 args n) i:=fun i=>AV.un_id (hng i)
  have hlen0:(st0 args n).length=n:=by simp [st0];omega
  have hsn:tm.size=n:=by
   have:tm.size=tm.toList.length:=by simp
   rw[this,htm];simp [hsz];omega
  refine⟨fun i=> ?_,fun i=> ?_,hsn,fun i h1 h2=> ?_,fun i _=>hng i,⟨Nat.le_of_eq hlen0.symm,Nat.le_of_eq hlen0.symm⟩,fun i l h=>(by cases h),fun i b hi=> ?_,fun i j b hi=> ?_,fun b hb=>hA.lt b hb.2,fun b hb=> ?_,fun b hb=> ?_,⟨fun b hb=> .inr hb.2,hA.glob,fun _ _ _ h=>h⟩,⟨rfl,rfl,rfl,Nat.le_refl _,fun _ _ _=>rfl⟩⟩
  ·rcases hat i with⟨x,v,h1,h2,hr⟩|h
   ·rw[h1,h2]
    exact SlotRel.of_av (by rw[←h1];exact hno i) hr
   ·rw[h];trivial
  ·rw[how i]
   have:=hno i
   cases hx:St.at (st0 args n) i<;>first|trivial|(rw[hx]at this;cases this)
  ·have:(st0 args n).length=n:=by simp [st0];omega
   simp only at h1
   omega
  ·rw[how i,hno i]at hi;cases hi
  ·rw[how i,hno i]at hi;cases hi
  ·cases hb.1
  ·cases hb.1
 refine aexec_sound hM hP ⟨hΓ,fun x hx=>⟨hlo x hx,hlo x hx⟩⟩ ms ⟨hms,by show n≤_;omega⟩ Λ c 0 _ tm w μ0 _ _ _ hL F h ?_ ?_
 rotate_left
 ·intro c a w h
  obtain⟨_,v,e,_⟩:=h
  cases e
 intro e st' tm' w' μ' ok' F' h'
 obtain⟨r0,h',hr0⟩:=hK e st' r h'
 have fin:resAV tb st' rs=some r0→([]:List Deferred)=[]∧ ∃v,(results fn tm').run P w'= .ok v w'∧ ∃v',Ending.returned v= .returned v'∧Fr none1 w w'∧ResRel w okA w' r v':=by
  intro hr
  obtain⟨v,e1,e2⟩:=resAV_rel (a:=⟨tm',[]⟩) hP F' (fun b h=>h) (by rw[hrs];exact hr)
  exact⟨rfl,v,e1,v,rfl,F'.fr,hr0 _ _ _ _ e2⟩
 cases e with
 |normal=>exact fin h'
 |ret=>exact fin h'
 |exit id=>cases h'
end
inductive WK where
 |id
 |sl (fr:Bool) (t:Ty)
 |arr (t:Ty)
 |mp (fr:Bool) (kt vt:Ty)
 |cells (l:List (Nat×Bool×Ty))
def wkM (f0:Bool) (kt vt:Ty):SV→SV
 | .nilm=> .sm f0 kt vt []
 | .sm fr kt' vt' es=> .sm (fr&&f0) kt' vt' es
 |v=>v
def wkS (f0:Bool) (t:Ty):SV→SV
 | .nils=> .sl f0 t none []
 | .sl fr t' _ xs=> .sl (fr&&f0) t' none xs
 |v=>v
def wkAt:List (Nat×Bool×Ty)→Nat→SV→SV
 |[],_,v=>v
 |(j,f,t)::r,i,v=>bif Nat.beq j i then wkS f t v else wkAt r i v
def wkCl (l:List (Nat×Bool×Ty)):Nat→List SV→List SV
 |_,[]=>[]
 |i,v::r=>wkAt l i v::wkCl l (i+1) r
section
variable {w w':World} {okA:Nat→Prop} {μ:Locs} {ok:OK}
theorem wkS_rel (hT: ∀b,ok true b→ok false b) {f0:Bool} {t:Ty} {x:SV} {v:Value} (h:SVRel w μ ok x v):SVRel w μ ok (wkS f0 t x) v:=by
 cases x with
 |nils=>
  obtain rfl:v= .slice none 0 0:=h
  exact⟨⟨none,0,rfl,by simp,by simp,.inl ⟨rfl,rfl,rfl⟩⟩,trivial⟩
 |sl fr t' nl xs=>
  refine⟨TRel.mono (fun _ _=>rfl) (fun b hb=> ?_) h.1,trivial⟩
  cases fr with
  |true=>cases f0 with
   |true=>exact hb
   |false=>exact hT b hb
  |false=>exact hb
 |_=>exact h
theorem wkM_rel (hT: ∀b,ok true b→ok false b) {f0:Bool} {kt vt:Ty} {x:SV} {v:Value} (h:SVRel w μ ok x v):SVRel w μ ok (wkM f0 kt vt x) v:=by
 cases x with
 |nilm=>exact .inl ⟨h,rfl⟩
 |sm fr kt' vt' es=>
  have weak: ∀b,ok fr b→ok (fr&&f0) b:=fun b hb=>by
   cases fr with
   |true=>cases f0 with
    |true=>exact hb
    |false=>exact hT b hb
   |false=>exact hb
  rcases(h:SVRel0 w μ ok (.sm fr kt' vt' es) v)with h|⟨b,e,hb,h⟩
  ·exact .inl h
  ·exact .inr ⟨b,e,weak b hb,h.mono (fun _ _=>rfl) weak rfl⟩
 |_=>exact h
theorem wkAt_rel (hT: ∀b,ok true b→ok false b) {x:SV} {v:Value} (h:SVRel w μ ok x v): ∀(l:List (Nat×Bool×Ty)) (i:Nat),SVRel w μ ok (wkAt l i x) v:=by
 intro l
 induction l with
 |nil=>intro i;exact h
 |cons p l ih=>
  intro i
  simp only[wkAt]
  cases Nat.beq p.1 i with
  |true=>exact wkS_rel hT h
  |false=>exact ih i
theorem wkCl_rel (hT: ∀b,ok true b→ok false b) (l:List (Nat×Bool×Ty)): ∀ {cs:List SV} {vs:List Value} (i:Nat),All2 (SVRel w μ ok) cs vs→All2 (SVRel w μ ok) (wkCl l i cs) vs:=by
 intro cs
 induction cs with
 |nil=>intro vs i h;cases h;exact .nil
 |cons c cs ih=>
  intro vs i h
  cases h with
  |cons h1 h2=>exact .cons (wkAt_rel hT h1 l i) (ih (i+1) h2)
theorem wkM_junk {f0:Bool} {kt vt:Ty} {x:SV} (h:x≠ .junk):wkM f0 kt vt x≠ .junk:=by cases x<;>simp_all [wkM]
theorem wkS_junk {f0:Bool} {t:Ty} {x:SV} (h:x≠ .junk):wkS f0 t x≠ .junk:=by cases x<;>simp_all [wkS]
end
def compO:AV→Option (Bool×List SV)
 | .one .junk=>none
 | .one v=>some (false,[v])
 | .agg cs=>some (true,cs)
 |_=>none
def compsO (tb:Tab) (st:St):List ResultVar→Option (List (Bool×List SV))
 |[]=>some []
 |r::l=>
  match resVar tb st r with
  |some v=>
   match compO v,compsO tb st l with
   |some x,some y=>some (x::y)
   |_,_=>none
  |none=>none
def resO (tb:Tab) (st:St):List ResultVar→Option AV
 |[r]=>
  match resVar tb st r with
  |some v=>
   match compO v with
   |some (true,cs)=>some (.agg cs)
   |some (false,[x])=>some (.one x)
   |_=>none
  |none=>none
 |l=>
  match compsO tb st l with
  |some x=>some (.tup x)
  |none=>none
def rowS (k:Nat):WK→SV→SV×List AV
 | .arr t,.nils=>(.hot k none,[.arr true t []])
 | .sl f t,v=>(wkS f t v,[])
 | .mp f kt vt,v=>(wkM f kt vt v,[])
 |_,v=>(v,[])
def rowComps:Nat→List WK→List (Bool×List SV)→List (Bool×List SV)×List AV
 |k,w::ws,(false,[v])::r=>((false,[(rowS k w v).1])::(rowComps (k+(rowS k w v).2.length) ws r).1,(rowS k w v).2++(rowComps (k+(rowS k w v).2.length) ws r).2)
 |k,.cells l::ws,(true,cs)::r=>((true,wkCl l 0 cs)::(rowComps k ws r).1,(rowComps k ws r).2)
 |k,_::ws,p::r=>(p::(rowComps k ws r).1,(rowComps k ws r).2)
 |_,_,l=>(l,[])
def rowA (k:Nat) (ws:List WK):AV→AV×List AV
 | .tup l=>(.tup (rowComps k ws l).1,(rowComps k ws l).2)
 | .one v=>match ws with
   |[w]=>(.one (rowS k w v).1,(rowS k w v).2)
   |_=>(.one v,[])
 | .agg cs=>match ws with
   |[.cells l]=>(.agg (wkCl l 0 cs),[])
   |_=>(.agg cs,[])
 |v=>(v,[])
def KretIO (tb:Tab) (n p:Nat) (rs:List ResultVar) (ws:List WK) (e:AE) (st:St):Option (AV×List AV):=
 match e with
 | .exit _=>none
 |_=>
  match resO tb st rs with
  |some r0=>
   let L:=reachN st 32 (addN (upN n p) r0.slots) 0
   match renA true (fun s=>posN s L 0) r0,renAs true (fun s=>posN s L 0) (L.map st.ow)with
   |some r,some gs=>bif distN L&&gs.all AV.isOwner&& !r.isOwner then some ((rowA L.length ws r).1,gs++(rowA L.length ws r).2)else none
   |_,_=>none
  |none=>none
section
variable {P:Program} {mine:Cx} {w0:World} {st:St} {a:Act} {w:World} {μ:Locs} {ok:OK} {tb:Tab} {Γ:Orc}
theorem compO_rel {v:AV} {x:Value} {p:Bool×List SV} (hv:AVRel w μ ok v x) (h:compO v=some p):compRel w μ ok p x:=by
 unfold compO at h
 split at h
 ·cases h
 ·rename_i y hy
  cases h
  have hj:y≠ .junk:=hy
  exact⟨y,rfl,by rwa [AVRel.eq1 hj]at hv⟩
 ·cases h;exact hv
 ·cases h
theorem resO_rel (hP:TabOk P tb) (F:Facts mine w0 st a.tmps w μ ok) {fn:Func} {r:AV} (h:resO tb st fn.results.toList=some r): ∃v,(results fn a.tmps).run P w= .ok v w∧AVRel w μ ok r v:=by
 have all: ∀(l:List ResultVar) (ps:List (Bool×List SV)),compsO tb st l=some ps→ ∃vs:List Value,
  (l.mapM (runVar a.tmps)).run P w= .ok vs w∧All2 (compRel w μ ok) ps vs∧l.length=ps.length:=by
  intro l
  induction l with
  |nil=>intro ps he;simp only[compsO,Option.some.injEq]at he;subst he;exact⟨[],by simp,.nil,rfl⟩
  |cons r l ih=>
   intro ps he
   simp only[compsO]at he
   split at he
   ·rename_i v hv
    split at he
    ·rename_i x y h1 h2
     cases he
     obtain⟨z,e1,e2⟩:=resVar_rel hP F hv
     obtain⟨vs,e3,e4,e5⟩:=ih y h2
     refine⟨z::vs, ?_,.cons (compO_rel e2 h1) e4,by simp [e5]⟩
     simp only[List.mapM_cons,Sem.run_bind]
     rw[e1]
     simp only[Result.andThen_ok,e3,Sem.run_pure]
    ·cases he
   ·cases he
 have res: ∀(vs:List Value),(fn.results.toList.mapM (runVar a.tmps)).run P w= .ok vs w→
  (results fn a.tmps).run P w= .ok (if h:vs.length=1 then vs[0]'(by omega)else .tuple vs.toArray) w:=by
  intro vs hvs
  rw[results_eq]
  have e:(fn.results.mapM (runVar a.tmps)).run P w= .ok vs.toArray w:=by
   conv=>lhs;rw[show fn.results=fn.results.toList.toArray by simp]
   rw[List.mapM_toArray]
   simp only[Sem.run_map,hvs,Result.andThen_ok]
  simp only[Sem.run_bind,e,Result.andThen_ok,Sem.run_pure]
  congr 1
 unfold resO at h
 split at h
 ·rename_i rv hl
  split at h
  ·rename_i v hv
   obtain⟨x,e1,e2⟩:=resVar_rel hP F hv
   have hrun:(results fn a.tmps).run P w= .ok x w:=by
    have:=res [x] (by
     rw[hl]
     simp only[List.mapM_cons,List.mapM_nil,Sem.run_bind]
     rw[e1]
     simp only[Result.andThen_ok,Sem.run_pure])
    simpa using this
   refine⟨x,hrun, ?_⟩
   split at h
   ·rename_i cs hc
    cases h
    exact compO_rel e2 hc
   ·rename_i y hc
    cases h
    obtain⟨z,e,hz⟩:=compO_rel e2 hc
    cases e
    have hj:y≠ .junk:=by
     intro e;subst e
     cases v with
     |one z=>cases z<;>simp [compO]at hc
     |_=>simp [compO]at hc
    rw[AVRel.eq1 hj];exact hz
   ·cases h
  ·cases h
 ·rename_i hne
  split at h
  ·rename_i ps hps
   cases h
   obtain⟨vs,e1,e2,e3⟩:=all _ _ hps
   have hlen:vs.length≠1:=by
    have h1:=e2.length
    intro hl
    have:fn.results.toList.length=1:=by omega
    match hq:fn.results.toList,this with
    |[rv],_=>exact hne rv hq
   have:=res vs e1
   rw[dif_neg hlen]at this
   exact⟨_,this,vs,rfl,e2⟩
  ·cases h
theorem rowS_rel (hT: ∀b,ok true b→ok false b) {k:Nat} (hk: ∀j,k≤j→μ j=⟨none,0,0⟩) {wk:WK} {x:SV} {v:Value} (h:SVRel w μ ok x v):SVRel w μ ok (rowS k wk x).1 v∧((rowS k wk x).1= .junk→x= .junk):=by
 unfold rowS
 split
 ·obtain rfl:v= .slice none 0 0:=h
  refine⟨?_,fun e=>by cases e⟩
  have e:=hk k (Nat.le_refl _)
  refine⟨?_,(fun m hm=>by cases hm), ?_⟩
  ·rw[e];rfl
  ·rw[e];show(0:Nat)≤_;omega
 ·rename_i f t
  refine⟨wkS_rel hT h,fun e=> ?_⟩
  by_cases hj:x= .junk
  ·exact hj
  ·exact absurd e (wkS_junk hj)
 ·refine⟨wkM_rel hT h,fun e=> ?_⟩
  by_cases hj:x= .junk
  ·exact hj
  ·exact absurd e (wkM_junk hj)
 ·exact⟨h,id⟩
theorem rowComps_rel (hT: ∀b,ok true b→ok false b): ∀(ws:List WK) {k:Nat} (hk: ∀j,k≤j→μ j=⟨none,0,0⟩) {l:List (Bool×List SV)} {vs:List Value},All2 (compRel w μ ok) l vs→All2 (compRel w μ ok) (rowComps k ws l).1 vs:=by
 intro ws
 induction ws with
 |nil=>intro k hk l vs h;cases l<;>exact h
 |cons wk ws ih=>
  intro k hk l vs h
  cases h with
  |nil=>exact .nil
  | @cons p v l vs hp hl=>
    obtain⟨f,cs⟩:=p
    have keep:All2 (compRel w μ ok) ((f,cs)::(rowComps k ws l).1) (v::vs):= .cons hp (ih hk hl)
    cases f with
    |true=>
     cases wk with
     |cells q=>
      obtain⟨us,e,hu⟩:=hp
      exact .cons ⟨us,e,wkCl_rel hT q 0 hu⟩ (ih hk hl)
     |_=>exact keep
    |false=>
     match cs,hp,keep with
     |[],_,keep=>cases wk<;>exact keep
     |[x],hp,_=>
      obtain⟨y,e,hy⟩:=hp
      simp only[List.cons.injEq,and_true]at e
      subst e
      exact .cons ⟨_,rfl,(rowS_rel hT hk hy).1⟩ (ih (fun j hj=>hk j (by omega)) hl)
     |_::_::_,_,keep=>cases wk<;>exact keep
theorem rowA_rel (hT: ∀b,ok true b→ok false b) {k:Nat} (hk: ∀j,k≤j→μ j=⟨none,0,0⟩) {ws:List WK} {r:AV} {v:Value} (h:AVRel w μ ok r v):AVRel w μ ok (rowA k ws r).1 v:=by
 cases r with
 |tup l=>obtain⟨vs,e,hh⟩:=h;exact⟨vs,e,rowComps_rel hT ws hk hh⟩
 |one x=>
  match ws with
  |[]=>exact h
  |_::_::_=>exact h
  |[q]=>
   show AVRel w μ ok (.one (rowS k q x).1) v
   by_cases hj:x= .junk
   ·subst hj
    have:(rowS k q SV.junk).1= .junk:=by cases q<;>rfl
    rw[this];trivial
   ·rw[AVRel.eq1 hj]at h
    obtain⟨h1,h2⟩:=rowS_rel (wk:=q) hT hk h
    rw[AVRel.eq1 fun e=>hj (h2 e)];exact h1
 |agg cs=>
  match ws with
  |[.cells q]=>obtain⟨us,e,hu⟩:=h;exact⟨us,e,wkCl_rel hT q 0 hu⟩
  |[]=>exact h
  |[.id]=>exact h
  |[.sl _ _]=>exact h
  |[.arr _]=>exact h
  |[.mp _ _ _]=>exact h
  |q::_::_=>cases q<;>exact h
 |own cs=>exact h
 |arr f t xs=>exact h
 |mapO f kt vt es=>exact h
 |gho o=>exact h
theorem rowS_ext {k:Nat} {wk:WK} {x:SV}: ∀y∈(rowS k wk x).2,∃t,y= .arr true t []:=by
 unfold rowS
 split<;>simp
theorem rowComps_ext: ∀(ws:List WK) (k:Nat) (l:List (Bool×List SV)),∀y∈(rowComps k ws l).2,∃t,y=AV.arr true t []:=by
 intro ws
 induction ws with
 |nil=>intro k l y hy;cases l<;>simp [rowComps]at hy
 |cons wk ws ih=>
  intro k l y hy
  match l with
  |[]=>simp [rowComps]at hy
  |(false,[x])::r=>
   simp only[rowComps,List.mem_append]at hy
   rcases hy with h|h
   ·exact rowS_ext y h
   ·exact ih _ _ y h
  |(false,[])::r=>cases wk<;>exact ih k r y hy
  |(false,_::_::_)::r=>cases wk<;>exact ih k r y hy
  |(true,_)::r=>cases wk<;>exact ih k r y hy
theorem rowA_ext (k:Nat) (ws:List WK) (r:AV): ∀y∈(rowA k ws r).2,∃t,y=AV.arr true t []:=by
 intro y hy
 cases r with
 |tup l=>exact rowComps_ext ws k l y hy
 |one x=>
  match ws with
  |[]=>cases hy
  |_::_::_=>cases hy
  |[q]=>exact rowS_ext y hy
 |agg cs=>
  match ws with
  |[.cells q]=>cases hy
  |[]=>cases hy
  |[.id]=>cases hy
  |[.sl _ _]=>cases hy
  |[.arr _]=>cases hy
  |[.mp _ _ _]=>cases hy
  |q::_::_=>cases q<;>cases hy
 |_=>cases hy
theorem io_start {n:Nat} {args gs:List AV} {p:Nat} {ys hs:List AV} (hys:renAs true (fun k=>some (n+k)) args=some ys) (hhs:renAs true (fun k=>some (n+k)) gs=some hs) (hgo:gs.all AV.isOwner=true) (hp:p≤gs.length) (hl:args.length≤n)
 {okA:Nat→Prop} {vs:List Value} {μ:Locs} (hA:BaseOk w okA∧ ∀g l,glGet g=some l→ ¬ioMine gs μ g) (hargs:All2 (AVRel w μ (argOK okA)) args vs) (hO:OwnsOk w μ (argOK okA) gs) {tm:Array Value} (htm:tm.toList=vs++List.replicate (n-args.length) undef):
 ∃μ1,Facts ⟨ioMine gs μ,okA,n,n+p,fun i=>if n≤i∧i<n+p then some (μ (i-n))else none⟩ w (st0 ys n++hs.map fun o=> .gho o.ov) tm w μ1 (argOK okA):=by
 obtain⟨hyl,_⟩:=renAs_get hys
 obtain⟨hhl,hhget⟩:=renAs_get hhs
 have hsz:vs.length=args.length:=hargs.length.symm
 obtain⟨μ1,hμ1⟩: ∃μ1:Locs,μ1=fun i=>if n≤i then μ (i-n)else⟨none,0,0⟩:=⟨_,rfl⟩
 have hRen:Ren μ μ1 (argOK okA) (argOK okA) true (fun k=>some (n+k)):=
  ⟨fun s k h=>by cases h;rw[hμ1];simp only;rw[if_pos (by omega),Nat.add_sub_cancel_left],fun fr b h=>by rw[Bool.and_true];exact h⟩
 have hargs':=renAs_rel hRen hargs hys
 have hlen0:(st0 ys n).length=n:=by simp [st0];omega
 have hatl: ∀i,i<n→(∃x v,St.at (st0 ys n++hs.map fun o=> .gho o.ov) i=x∧tm.getD i undef=v∧AVRel w μ1 (argOK okA) x v)∨St.at (st0 ys n++hs.map fun o=> .gho o.ov) i= .one .junk:=by
  intro i hi
  rw[St.at_append,hlen0,if_pos hi]
  unfold St.at st0
  rcases Nat.lt_or_ge i ys.length with hi|hi
  ·left
   obtain⟨v,hv,hr⟩:=hargs'.get i ys[i] (List.getElem?_eq_getElem hi)
   refine⟨ys[i],v,by simp [List.getD_eq_getElem?_getD,List.getElem?_append_left hi,hi], ?_,hr⟩
   rw[Array.getD_eq_getD_getElem?,←Array.getElem?_toList,htm,List.getElem?_append_left (by omega),hv];rfl
  ·right
   simp only[List.getD_eq_getElem?_getD,List.getElem?_append_right hi,List.getElem?_replicate]
   split<;>rfl
 have hatg: ∀i,n≤i→(∃k g h',i=n+k∧gs[k]? =some g∧ownAt gs k=g∧renA true (fun k=>some (n+k)) g=some h'∧g.isOwner=true∧St.at (st0 ys n++hs.map fun o=> .gho o.ov) i= .gho h'.ov∧St.ow (st0 ys n++hs.map fun o=> .gho o.ov) i=h')∨
  (St.at (st0 ys n++hs.map fun o=> .gho o.ov) i= .one .junk∧n+gs.length≤i):=by
  intro i hi
  rcases Nat.lt_or_ge (i-n) gs.length with hlt|hge
  ·left
   obtain⟨h',e1,e2⟩:=hhget (i-n) gs[i-n] (List.getElem?_eq_getElem hlt)
   have ho:(gs[i-n]).isOwner=true:=List.all_eq_true.1 hgo _ (List.getElem_mem hlt)
   have hat:St.at (st0 ys n++hs.map fun o=> .gho o.ov) i= .gho h'.ov:=by
    rw[St.at_append,hlen0,if_neg (by omega)]
    unfold St.at
    simp [List.getD_eq_getElem?_getD,e1]
   refine⟨i-n,_,h',by omega,List.getElem?_eq_getElem hlt,by unfold ownAt;simp [List.getD_eq_getElem?_getD,hlt],e2,ho,hat, ?_⟩
   unfold St.ow
   rw[hat]
   exact ov_av (.inl (by rw[renA_owner e2];exact ho))
  ·right
   refine⟨St.at_out _ _ (by simp [hlen0,hhl];omega),by omega⟩
 have hlow: ∀i,i<n→(St.at (st0 ys n++hs.map fun o=> .gho o.ov) i).isOwner=false∧(St.at (st0 ys n++hs.map fun o=> .gho o.ov) i).isGho=false:=by
  intro i hi
  rcases hatl i hi with⟨x,v,rfl,_,hr⟩|h
  ·exact⟨by cases hx:St.at (st0 ys n++hs.map fun o=> .gho o.ov) i<;>first|rfl|(rw[hx]at hr;exact hr.elim),hr.noGho⟩
  ·rw[h];exact⟨rfl,rfl⟩
 have howl: ∀i,i<n→St.ow (st0 ys n++hs.map fun o=> .gho o.ov) i=St.at (st0 ys n++hs.map fun o=> .gho o.ov) i:=fun i hi=>AV.un_id (hlow i hi).2
 have hownG: ∀i,(St.ow (st0 ys n++hs.map fun o=> .gho o.ov) i).isOwner=true→ ∃k,i=n+k∧(ownAt gs k).isOwner=true∧μ1 i=μ k:=by
  intro i hi
  rcases Nat.lt_or_ge i n with hlt|hge
  ·rw[howl i hlt,(hlow i hlt).1]at hi;cases hi
  ·rcases hatg i hge with⟨k,g,h',e1,e2,e3,e4,e5,e6,e7⟩|⟨h,_⟩
   ·refine⟨k,e1,by rw[e3];exact e5, ?_⟩
    rw[hμ1,e1];simp only;rw[if_pos (by omega),Nat.add_sub_cancel_left]
   ·unfold St.ow at hi;rw[h]at hi;cases hi
 refine⟨μ1, ?_⟩
 have hsn:tm.size=n:=by
  have:tm.size=tm.toList.length:=by simp
  rw[this,htm];simp [hsz];omega
 refine⟨fun i=> ?_,fun i=> ?_,hsn,fun i h1 h2=> ?_,fun i h1=>(hlow i h1).2, ?_,fun i l h=> ?_,fun i b hi hb=> ?_,fun i j b hi hj hib hjb=> ?_,fun b hb=>hA.1.lt b hb.2,fun b hb=> ?_,fun b hb=> ?_,⟨fun b hb=> .inr hb.2,hA.1.glob,hA.2⟩,⟨rfl,rfl,rfl,Nat.le_refl _,fun _ _ _=>rfl⟩⟩
 ·rcases Nat.lt_or_ge i n with hlt|hge
  ·rcases hatl i hlt with⟨x,v,h1,h2,hr⟩|h
   ·rw[h1,h2]
    exact SlotRel.of_av (by rw[←h1];exact(hlow i hlt).1) hr
   ·rw[h];trivial
  ·rcases hatg i hge with⟨k,g,h',e1,e2,e3,e4,e5,e6,e7⟩|⟨h,_⟩
   ·rw[e6];trivial
   ·rw[h];trivial
 ·rcases Nat.lt_or_ge i n with hlt|hge
  ·rw[howl i hlt]
   have:=(hlow i hlt).1
   cases hx:St.at (st0 ys n++hs.map fun o=> .gho o.ov) i<;>first|trivial|(rw[hx]at this;cases this)
  ·rcases hatg i hge with⟨k,g,h',e1,e2,e3,e4,e5,e6,e7⟩|⟨h,_⟩
   ·rw[e7]
    exact renOwn_rel hRen (by rw[hμ1,e1];simp only;rw[if_pos (by omega),Nat.add_sub_cancel_left]) (e3▸hO.own k) e4
   ·unfold St.ow;rw[h];trivial
 ·rcases hatg i h1 with⟨k,g,h',e1,e2,e3,e4,e5,e6,e7⟩|⟨_,h⟩
  ·rw[e6];rfl
  ·simp [hlen0,hhl]at h2;simp only at h1;omega
 ·simp [hlen0,hhl];omega
 ·simp only at h
  split at h
  ·rename_i hi
   cases h
   refine⟨hi.1,hi.2, ?_⟩
   rw[hμ1];simp only;rw[if_pos hi.1]
  ·cases h
 ·obtain⟨k,e1,e2,e3⟩:=hownG i hi
  rw[e3]at hb
  obtain⟨b1,b2⟩:=hO.blk k b e2 hb
  exact⟨b1,.inr ⟨k,e2,hb⟩,b2⟩
 ·obtain⟨k,e1,e2,e3⟩:=hownG i hi
  obtain⟨k',f1,f2,f3⟩:=hownG j hj
  rw[e3]at hib
  rw[f3]at hjb
  rw[e1,f1,hO.inj k k' b e2 f2 hib hjb]
 ·cases hb.1
 ·cases hb.1
theorem io_end (hP:TabOk P tb) {n p:Nat} {gs:List AV} {μ:Locs} {okA:Nat→Prop} {st':St} {tm':Array Value} {w':World} {μ':Locs} {ok':OK} {fn:Func} {rs:List ResultVar} {ws:List WK} {r:AV} {gs':List AV} (hrs:fn.results.toList=rs)
 (F':Facts ⟨ioMine gs μ,okA,n,n+p,fun i=>if n≤i∧i<n+p then some (μ (i-n))else none⟩ w st' tm' w' μ' ok')
 (hr:(match resO tb st' rs with
 |some r0=>
  match renA true (fun s=>posN s (reachN st' 32 (addN (upN n p) r0.slots) 0) 0) r0,renAs true (fun s=>posN s (reachN st' 32 (addN (upN n p) r0.slots) 0) 0) ((reachN st' 32 (addN (upN n p) r0.slots) 0).map st'.ow)with
  |some r,some gs=>bif distN (reachN st' 32 (addN (upN n p) r0.slots) 0)&&gs.all AV.isOwner&& !r.isOwner then some ((rowA (reachN st' 32 (addN (upN n p) r0.slots) 0).length ws r).1,gs++(rowA (reachN st' 32 (addN (upN n p) r0.slots) 0).length ws r).2)else none
  |_,_=>none
 |none=>none)=some (r,gs')): ∃v,(results fn tm').run P w'= .ok v w'∧Fr (ioMine gs μ) w w'∧ ∃(ok':OK) (μ':Locs),
  (∀fr b,ok' fr b→resOK w w' okA fr b)∧(∀b,ok' true b→ok' false b)∧AVRel w' μ' ok' r v∧OwnsOk w' μ' ok' gs'∧
  (∀k b,(ownAt gs' k).isOwner=true→(μ' k).b=some b→w.heap.size≤b∨ioMine gs μ b)∧(∀k,k<p→μ' k=μ k):=by
 split at hr
 ·rename_i r0 hr0
  obtain⟨L,hLdef⟩: ∃L,L=reachN st' 32 (addN (upN n p) r0.slots) 0:=⟨_,rfl⟩
  rw[←hLdef]at hr
  have hpre: ∃t,L=upN n p++t:=by
   obtain⟨t1,h1⟩:=addN_pre r0.slots (upN n p)
   obtain⟨t2,h2⟩:=reachN_pre st' 32 (addN (upN n p) r0.slots) 0
   exact⟨t1++t2,by rw[hLdef,h2,h1];simp⟩
  split at hr
  ·rename_i r1 g1 e1 e2
   cases hc:(distN L&&g1.all AV.isOwner&& !r1.isOwner)with
   |false=>rw[hc]at hr;cases hr
   |true=>
    rw[hc]at hr
    simp only[cond_true,Option.some.injEq,Prod.mk.injEq]at hr
    obtain⟨hr2,hg2⟩:=hr
    simp only[Bool.and_eq_true,Bool.not_eq_true']at hc
    obtain⟨⟨hd,hgo1⟩,_⟩:=hc
    have hnd:=distN_nodup hd
    obtain⟨v,hv1,hv2⟩:=resO_rel (a:=⟨tm',[]⟩) hP F' (by rw[hrs];exact hr0)
    obtain⟨ν,hν⟩: ∃ν:Locs,ν=fun k=>if k<L.length then μ' (nthN L k)else⟨none,0,0⟩:=⟨_,rfl⟩
    have hR:Ren μ' ν ok' ok' true (fun s=>posN s L 0):=⟨fun s k h=>by
     obtain⟨j,j1,j2⟩:=posN_spec h
     rw[Nat.zero_add]at j1
     subst j1
     rw[hν];simp only
     rw[if_pos (List.getElem?_eq_some_iff.1 j2).1,nthN_of j2],fun fr b h=>by rw[Bool.and_true];exact h⟩
    obtain⟨hg1l,hg1get⟩:=renAs_get e2
    simp only[List.length_map]at hg1l
    have hrow:AVRel w' ν ok' (rowA L.length ws r1).1 v:=rowA_rel F'.okT (fun j hj=>by rw[hν];exact if_neg (by omega)) (renA_rel hR hv2 e1)
    have hown: ∀k,(∃s g,L[k]? =some s∧ownAt gs' k=g∧renA true (fun s=>posN s L 0) (st'.ow s)=some g∧ν k=μ' s)∨(L.length≤k∧((∃t,ownAt gs' k= .arr true t [])∨ownAt gs' k= .one .junk)):=by
     intro k
     rcases Nat.lt_or_ge k L.length with hlt|hge
     ·left
      obtain⟨y,f1,f2⟩:=hg1get k (st'.ow L[k]) (by simp [hlt])
      refine⟨L[k],y,List.getElem?_eq_getElem hlt, ?_,f2, ?_⟩
      ·unfold ownAt
       rw[←hg2,List.getD_eq_getElem?_getD,List.getElem?_append_left (by omega),f1];rfl
      ·rw[hν];simp only;rw[if_pos hlt,nthN_of (List.getElem?_eq_getElem hlt)]
     ·right
      refine⟨hge, ?_⟩
      unfold ownAt
      rw[←hg2,List.getD_eq_getElem?_getD,List.getElem?_append_right (by omega)]
      cases hx:(rowA L.length ws r1).2[k-g1.length]? with
      |none=>exact .inr rfl
      |some y=>
       obtain⟨t,ht⟩:=rowA_ext L.length ws r1 y (List.mem_of_getElem? hx)
       exact .inl ⟨t,by rw[ht];rfl⟩
    have hν0: ∀k,L.length≤k→ν k=⟨none,0,0⟩:=fun k hk=>by rw[hν];exact if_neg (by omega)
    have hblk: ∀k b,(ownAt gs' k).isOwner=true→(ν k).b=some b→ ∃s,L[k]? =some s∧(st'.ow s).isOwner=true∧(μ' s).b=some b:=by
     intro k b hk hb
     rcases hown k with⟨s,g,f1,f2,f3,f4⟩|⟨hge,_⟩
     ·rw[f2,renA_owner f3]at hk
      rw[f4]at hb
      exact⟨s,f1,hk,hb⟩
     ·rw[hν0 k hge]at hb;cases hb
    refine⟨v,hv1,F'.fr,ok',ν,fun fr b hb=> ?_,F'.okT,hr2▸hrow,⟨fun k=> ?_,fun k b hk hb=> ?_,fun j k b hj hk hjb hkb=> ?_⟩,fun k b hk hb=> ?_,fun k hk=> ?_⟩
    ·cases fr with
     |true=>exact .inl ⟨F'.okF b hb,F'.okB b (F'.okT b hb)⟩
     |false=>exact(F'.okS.old b hb).imp (fun h=>⟨h,F'.okB b hb⟩) (fun h=>⟨rfl,h⟩)
    ·rcases hown k with⟨s,g,f1,f2,f3,f4⟩|⟨hge,⟨t,ht⟩|h⟩
     ·rw[f2];exact renOwn_rel hR f4 (F'.owns s) f3
     ·rw[ht]
      refine⟨by rw[hν0 k hge];rfl,by rw[hν0 k hge];exact Nat.le_refl _,by rw[hν0 k hge];show(0:Nat)≤_;omega,.inl ⟨by rw[hν0 k hge],rfl,by rw[hν0 k hge]⟩⟩
     ·rw[h];trivial
    ·obtain⟨s,f1,f2,f3⟩:=hblk k b hk hb
     exact⟨(F'.ownB s b f2 f3).1,(F'.ownB s b f2 f3).2.2⟩
    ·obtain⟨s,f1,f2,f3⟩:=hblk j b hj hjb
     obtain⟨s',g1',g2',g3'⟩:=hblk k b hk hkb
     have:=F'.inj s s' b f2 g2' f3 g3'
     subst this
     exact nodup_inj hnd f1 g1'
    ·obtain⟨s,f1,f2,f3⟩:=hblk k b hk hb
     exact(F'.ownB s b f2 f3).2.1
    ·obtain⟨t,ht⟩:=hpre
     have hk2:L[k]? =some (n+k):=by rw[ht,List.getElem?_append_left (by rw[upN_length];exact hk),upN_get,if_pos hk]
     have hlt:=(List.getElem?_eq_some_iff.1 hk2).1
     rw[hν];simp only
     rw[if_pos hlt,nthN_of hk2]
     have:=(F'.pin (n+k) (μ k) (by show(if n≤n+k∧n+k<n+p then some (μ (n+k-n))else none)=_;rw[if_pos (by omega),Nat.add_sub_cancel_left])).2.2
     exact this
  ·cases hr
 ·cases hr
theorem good_ofIO (hM:P.follows .mixedOrders=true) (hP:TabOk P tb) (hΓ:OrcOk P Γ) {f:FuncId} {fn:Func} {c:Code} {n:Nat} {rs:List ResultVar} (hf:P.funcs[f]? =some fn) (hb:fn.body=some c) (hn:fn.ntmps=n) (hrs:fn.results.toList=rs)
 (args gs:List AV) (p:Nat) {ys hs:List AV} (hys:renAs true (fun k=>some (n+k)) args=some ys) (hhs:renAs true (fun k=>some (n+k)) gs=some hs) (hgo:gs.all AV.isOwner=true) (hp:p≤gs.length) (hl:args.length≤n) (ms:Lay) (hms:n=ms.n) (hmg:gs.length≤ms.g) (Λ:Lam (AV×List AV))
 (hL: ∀p∈loopsOf 0 c,LoopP tb Γ Λ ms p) (ws:List WK) {r:AV} {gs':List AV} (h:aexec tb Γ Λ ms c 0 (st0 ys n++hs.map fun o=> .gho o.ov) (KretIO tb n p rs ws)=some (r,gs')) (hlo:LoOk Γ (n+p):=by exact lo_none rfl):GoodIO P f args p gs r gs':=by
 intro w okA vs μ hA hargs hO
 refine calls_of_wp hf hb ?_
 have hsz:vs.length=args.length:=hargs.length.symm
 obtain⟨μ1,F⟩:=io_start (n:=n) hys hhs hgo hp hl hA hargs hO (tm:=vs.toArray++Array.replicate (fn.ntmps-vs.toArray.size) undef) (by simp [hn,hsz])
 refine aexec_sound hM hP ⟨hΓ,fun x hx=>⟨Nat.le_trans (Nat.le_add_right n p) (hlo x hx),hlo x hx⟩⟩ ms ⟨hms,by show n+p≤_;omega⟩ Λ c 0 _ _ w μ1 _ _ _ hL F h ?_ ?_
 rotate_left
 ·intro c a w h
  obtain⟨_,v,e,_⟩:=h
  cases e
 intro e st' tm' w' μ' ok' F' h'
 cases e with
 |exit id=>cases h'
 |normal=>obtain⟨v,h1,h2⟩:=io_end hP hrs F' h';exact⟨rfl,v,h1,v,rfl,h2⟩
 |ret=>obtain⟨v,h1,h2⟩:=io_end hP hrs F' h';exact⟨rfl,v,h1,v,rfl,h2⟩
end
def WF:(t:Ty)→t.D→Prop
 | .int k,n=>k.has n
 | .bool,_=>True
 | .str,s=>s.size≤9223372036854775807
 | .unit,_=>True
 | .pair a b,p=>WF a p.1∧WF b p.2
 | .sl t,xs=>xs.length≤9223372036854775807∧ ∀x∈xs,WF t x
theorem TRel.wf {w:World} {okf:Nat→Prop}: ∀ {t:Ty} {x:t.D} {vs:List Value},TRel w okf t x vs→WF t x
 | .int k,x,vs,h=>h.2
 | .bool,x,vs,h=>trivial
 | .str,x,vs,h=>h.2
 | .unit,x,vs,h=>trivial
 | .pair a b,x,vs,h=>by
   obtain⟨u,v,_,h1,h2⟩:=h
   exact⟨TRel.wf h1,TRel.wf h2⟩
 | .sl t,xs,vs,h=>by
   obtain⟨A,c,e,h1,h2,h3⟩:=h
   refine⟨by omega,fun x hx=> ?_⟩
   obtain⟨j,hj,rfl⟩:=List.getElem_of_mem hx
   rcases h3 with⟨_,rfl,_⟩|⟨b,o,_,_,h3⟩
   ·simp at hj
   ·obtain⟨cs,g1,_⟩:=h3 j hj
    exact TRel.wf g1
inductive AK where
 |v (t:Ty)
 |raw
@[reducible] def AK.D:AK→Type
  | .v t=>t.D
  | .raw=>AV
def encV (t:Ty) (x:t.D):AV:=
 match t,x with
 | .int k,n=> .one (.int k n)
 | .bool,b=> .one (.bool b)
 | .str,s=> .one (.str s)
 | .unit,_=> .agg []
 | .sl t,xs=> .one (.sl false t none xs)
 | .pair a b,p=> .agg (enc (.pair a b) false p)
def AK.enc:(k:AK)→k.D→AV
 | .v t,x=>encV t x
 | .raw,a=>a
def decV (t:Ty) (a:AV):Option t.D:=
 match toD t a with
 |some (x,_)=>some x
 |none=>none
def AK.dec:(k:AK)→AV→Option k.D
 | .v t,a=>decV t a
 | .raw,a=>some a
@[reducible] def ADen:List AK→Type
  |[]=>Unit
  |[k]=>k.D
  |k::ks=>k.D×ADen ks
def encA:(ks:List AK)→ADen ks→List AV
 |[],_=>[]
 |[k],x=>[k.enc x]
 |k::k'::ks,p=>k.enc p.1::encA (k'::ks) p.2
def decA:(ks:List AK)→List AV→Option (ADen ks)
 |[],[]=>some ()
 |[k],[a]=>k.dec a
 |k::k'::ks,a::l=>
  match k.dec a,decA (k'::ks) l with
  |some x,some y=>some (x,y)
  |_,_=>none
 |_,_=>none
def WFA:(ks:List AK)→ADen ks→Prop
 |[],_=>True
 |[.v t],x=>WF t x
 |[.raw],_=>True
 | .v t::k'::ks,p=>WF t p.1∧WFA (k'::ks) p.2
 | .raw::k'::ks,p=>WFA (k'::ks) p.2
section
variable {w:World} {okA:Nat→Prop}
theorem argT: ∀b,argOK okA true b→argOK okA false b:=fun b h=>by cases h.1
theorem encV_comp {t:Ty} {x:t.D} {v:Value} (h:compRel w μ0 (argOK okA) (t.isAgg,enc t false x) v):AVRel w μ0 (argOK okA) (encV t x) v:=by
 cases t with
 |int k=>obtain⟨y,e,h⟩:=h;simp only[enc,List.cons.injEq,and_true]at e;subst e;exact h
 |bool=>obtain⟨y,e,h⟩:=h;simp only[enc,List.cons.injEq,and_true]at e;subst e;exact h
 |str=>obtain⟨y,e,h⟩:=h;simp only[enc,List.cons.injEq,and_true]at e;subst e;exact h
 |sl t=>obtain⟨y,e,h⟩:=h;simp only[enc,List.cons.injEq,and_true]at e;subst e;exact h
 |unit=>exact h
 |pair a b=>exact h
theorem VRel.wf {okf:Nat→Prop} {t:Ty} {x:t.D} {v:Value} (h:VRel w okf t x v):WF t x:=by
 cases ha:t.isAgg with
 |true=>rw[VRel.agg ha]at h;obtain⟨vs,_,h⟩:=h;exact h.wf
 |false=>rw[VRel.one ha]at h;exact h.wf
theorem decV_rel {t:Ty} {a:AV} {x:t.D} {v:Value} (h:AVRel w μ0 (argOK okA) a v) (hd:decV t a=some x):AVRel w μ0 (argOK okA) (encV t x) v∧WF t x:=by
 unfold decV at hd
 split at hd
 ·rename_i x' f he
  cases hd
  have hv:=toD_rel argT h he
  refine⟨encV_comp (ofD_rel (hv.mono (fun _ _=>rfl) fun b hb=> ?_)),hv.wf⟩
  exact⟨rfl,hb.2⟩
 ·cases hd
theorem decA_rel: ∀ {ks:List AK} {l:List AV} {x:ADen ks} {vs:List Value},All2 (AVRel w μ0 (argOK okA)) l vs→decA ks l=some x→All2 (AVRel w μ0 (argOK okA)) (encA ks x) vs∧WFA ks x:=by
 have one: ∀ {k:AK} {a:AV} {x:k.D} {v:Value},AVRel w μ0 (argOK okA) a v→k.dec a=some x→AVRel w μ0 (argOK okA) (k.enc x) v:=by
  intro k a x v h hd
  cases k with
  |v t=>exact(decV_rel h hd).1
  |raw=>cases hd;exact h
 intro ks
 induction ks with
 |nil=>
  intro l x vs h hd
  cases h with
  |nil=>exact⟨.nil,trivial⟩
  |cons _ _=>simp [decA]at hd
 |cons k ks ih=>
  intro l x vs h hd
  cases h with
  |nil=>cases ks<;>simp [decA]at hd
  | @cons a v l vs ha hl=>
    cases ks with
    |nil=>
     cases hl with
     |nil=>
      refine⟨.cons (one ha hd) .nil, ?_⟩
      cases k with
      |v t=>exact(decV_rel ha hd).2
      |raw=>trivial
     |cons _ _=>simp [decA]at hd
    |cons k' ks=>
     simp only[decA]at hd
     split at hd
     ·rename_i x' y h1 h2
      cases hd
      obtain⟨g1,g2⟩:=ih hl h2
      refine⟨.cons (one ha h1) g1, ?_⟩
      cases k with
      |v t=>exact⟨(decV_rel ha h1).2,g2⟩
      |raw=>exact g2
     ·cases hd
end
inductive Sp where
 |fn (ks:List AK) (f:ADen ks→Bool×AV)
 |raw (g:List AV→Option (Bool×AV))
 |io (g:List AV→Nat→List AV→Option (Bool×AV×List AV))
def Sp.run:Sp→List AV→Option (Bool×AV)
 | .fn ks f,l=>
   match decA ks l with
   |some x=>some (f x)
   |none=>none
 | .raw g,l=>g l
 | .io _,_=>none
def Sp.runIO:Sp→List AV→Nat→List AV→Option (Bool×AV×List AV)
 | .io g,l,p,gs=>g l p gs
 |_,_,_,_=>none
def Sp.isIO:Sp→Bool
 | .io _=>true
 |_=>false
def orcF:List (FuncId×Sp)→FuncId→List AV→Option (Bool×AV)
 |[],_,_=>none
 |(a,s)::r,f,l=>bif Nat.beq a f&& !s.isIO then s.run l else orcF r f l
def orcI:List (FuncId×Sp)→FuncId→List AV→Nat→List AV→Option (Bool×AV×List AV)
 |[],_,_,_,_=>none
 |(a,s)::r,f,l,p,gs=>bif Nat.beq a f&&s.isIO then s.runIO l p gs else orcI r f l p gs
def orcH:List (FuncId×Sp)→FuncId→Bool
 |[],_=>false
 |(a,s)::r,f=>(Nat.beq a f&&s.isIO)||orcH r f
def orc (l:List (FuncId×Sp)):Orc:=⟨orcF l,orcI l,orcH l,none,fun _ _=>false,false,false⟩
def orcL (lo:Nat) (l:List (FuncId×Sp)):Orc:=⟨orcF l,orcI l,orcH l,some lo,fun _ _=>false,false,false⟩
def orcF2 (lo:Option Nat) (l:List (FuncId×Sp)):Orc:=⟨orcF l,orcI l,orcH l,lo,fun _ _=>false,true,false⟩
def orcLf (lo:Nat) (l:List (FuncId×Sp)):Orc:=⟨orcF l,orcI l,orcH l,some lo,fun _ _=>false,false,true⟩
def GoodS (P:Program) (f:FuncId) (s:Sp):Prop:=
 Callable P f∧(∀l r,s.run l=some (true,r)→Good P f l r)∧(∀l p gs r gs',s.runIO l p gs=some (true,r,gs')→GoodIO P f l p gs r gs')
theorem OrcOk.toL {P:Program} {l:List (FuncId×Sp)} (lo:Nat) (h:OrcOk P (orc l)):OrcOk P (orcL lo l):=⟨h.1,h.2⟩
theorem OrcOk.toLf {P:Program} {l:List (FuncId×Sp)} (lo:Nat) (h:OrcOk P (orc l)):OrcOk P (orcLf lo l):=⟨h.1,h.2⟩
theorem OrcOk.toF {P:Program} {l:List (FuncId×Sp)} (lo:Option Nat) (h:OrcOk P (orc l)):OrcOk P (orcF2 lo l):=⟨h.1,h.2⟩
theorem OrcOk.nil (P:Program):OrcOk P (orc []):=⟨fun f l r h=>(by cases h),fun f l p gs r gs' h=>(by cases h)⟩
theorem OrcOk.cons {P:Program} {f:FuncId} {s:Sp} {r:List (FuncId×Sp)} (h:GoodS P f s) (t:OrcOk P (orc r)):OrcOk P (orc ((f,s)::r)):=by
 refine⟨fun g l v hv=> ?_,fun g l p gs v gs' hv=> ?_⟩
 ·have hv:(bif Nat.beq f g&& !s.isIO then s.run l else orcF r g l)=some (true,v):=hv
  cases hb:(Nat.beq f g&& !s.isIO)with
  |true=>
   rw[hb]at hv
   simp only[Bool.and_eq_true]at hb
   obtain rfl:=Nat.eq_of_beq_eq_true hb.1
   exact⟨h.1,h.2.1 l v hv⟩
  |false=>
   rw[hb]at hv
   exact t.1 g l v hv
 ·have hv:(bif Nat.beq f g&&s.isIO then s.runIO l p gs else orcI r g l p gs)=some (true,v,gs'):=hv
  cases hb:(Nat.beq f g&&s.isIO)with
  |true=>
   rw[hb]at hv
   simp only[Bool.and_eq_true]at hb
   obtain rfl:=Nat.eq_of_beq_eq_true hb.1
   exact⟨h.1,h.2.2 l p gs v gs' hv⟩
  |false=>
   rw[hb]at hv
   exact t.2 g l p gs v gs' hv
theorem Good.of_rel {P:Program} {f:FuncId} {l l':List AV} {r:AV} {p:Prop} (h: ∀(w:World) (okA:Nat→Prop) (vs:List Value),All2 (AVRel w μ0 (argOK okA)) l vs→All2 (AVRel w μ0 (argOK okA)) l' vs∧p) (hp:p→Good P f l' r):Good P f l r:=by
 intro w okA vs hA hl
 obtain⟨h1,h2⟩:=h w okA vs hl
 exact hp h2 w okA vs hA h1
theorem GoodS.fn {P:Program} {f:FuncId} {ks:List AK} {g:ADen ks→Bool×AV} (hc:Callable P f) (h: ∀x r,WFA ks x→g x=(true,r)→Good P f (encA ks x) r):GoodS P f (.fn ks g):=by
 refine⟨hc,fun l r hr=> ?_,fun l p gs r gs' h=>by cases h⟩
 simp only[Sp.run]at hr
 split at hr
 ·rename_i x hx
  simp only[Option.some.injEq]at hr
  exact Good.of_rel (fun w okA vs hl=>decA_rel hl hx) fun hw=>h x r hw hr
 ·cases hr
def SV.wf:SV→Prop
 | .int k n=>k.has n
 | .str s=>s.size≤9223372036854775807
 | .sl _ t _ xs=>WF (.sl t) xs
 | .rp _ t x _=>WF t x
 |_=>True
def AV.wf:AV→Prop
 | .one v=>v.wf
 | .agg cs=> ∀c∈cs,c.wf
 | .own cs=> ∀c∈cs,c.wf
 | .arr _ t xs=>WF (.sl t) xs
 |_=>True
section
variable {w:World} {μ:Locs} {ok:OK}
theorem SVRel.wf {x:SV} {v:Value} (h:SVRel w μ ok x v):x.wf:=by
 cases x with
 |int k n=>exact h.2
 |str s=>exact h.2
 |sl f t nl xs=>exact h.1.wf
 |rp f t x off=>obtain⟨b,o,cs,_,_,h,_⟩:=h;exact h.wf
 |_=>trivial
theorem all2_wf {cs:List SV} {vs:List Value} (h:All2 (SVRel w μ ok) cs vs): ∀c∈cs,c.wf:=by
 induction h with
 |nil=>intro c hc;cases hc
 |cons h _ ih=>
  intro c hc
  rcases List.mem_cons.1 hc with rfl|hc
  ·exact h.wf
  ·exact ih c hc
theorem AVRel.wf {x:AV} {v:Value} (h:AVRel w μ ok x v):x.wf:=by
 cases x with
 |one x=>
  by_cases hj:x= .junk
  ·subst hj;trivial
  ·rw[AVRel.eq1 hj]at h;exact h.wf
 |agg cs=>obtain⟨vs,_,h⟩:=h;exact all2_wf h
 |tup l=>trivial
 |own cs=>exact h.elim
 |arr f t xs=>exact h.elim
 |mapO f kt vt es=>trivial
 |gho o=>trivial
theorem OwnRel.wf {i:Nat} {x:AV} (h:OwnRel w μ ok i x) (ho:x.isOwner=true):x.wf:=by
 cases x with
 |own cs=>obtain⟨b,c,E,_,_,h⟩:=h;exact all2_wf h
 |arr f t xs=>
  obtain⟨h1,h2,h3,h4⟩:=h
  refine⟨by omega,fun x hx=> ?_⟩
  rcases h4 with⟨_,rfl,_⟩|⟨b,c,E,_,_,_,h4⟩
  ·cases hx
  ·obtain⟨j,hj,rfl⟩:=List.getElem_of_mem hx
   obtain⟨cs,h5,_⟩:=h4 j hj
   exact h5.wf
 |mapO f kt vt es=>trivial
 |_=>cases ho
end
theorem GoodIO.of_wf {P:Program} {f:FuncId} {l:List AV} {p:Nat} {gs:List AV} {r:AV} {gs':List AV} (hp:(∀a∈l,a.wf)→(∀g∈gs,g.isOwner=true→g.wf)→GoodIO P f l p gs r gs'):GoodIO P f l p gs r gs':=by
 intro w okA vs μ hA hl hO
 refine hp (fun a ha=> ?_) (fun g hg ho=> ?_) w okA vs μ hA hl hO
 ·obtain⟨k,hk,rfl⟩:=List.getElem_of_mem ha
  obtain⟨v,_,h⟩:=hl.get k l[k] (List.getElem?_eq_getElem hk)
  exact h.wf
 ·obtain⟨k,hk,rfl⟩:=List.getElem_of_mem hg
  have:=hO.own k
  have e:ownAt gs k=gs[k]:=by unfold ownAt;simp [List.getD_eq_getElem?_getD,hk]
  rw[e]at this
  exact this.wf ho
theorem GoodS.io {P:Program} {f:FuncId} {g:List AV→Nat→List AV→Option (Bool×AV×List AV)} (hc:Callable P f) (h: ∀l p gs r gs',(∀a∈l,a.wf)→(∀g∈gs,g.isOwner=true→g.wf)→g l p gs=some (true,r,gs')→GoodIO P f l p gs r gs'):GoodS P f (.io g):=
 ⟨hc,fun l r h=>(by cases h),fun l p gs r gs' hh=>GoodIO.of_wf fun h1 h2=>h l p gs r gs' h1 h2 hh⟩
theorem callable_of {P:Program} {f:FuncId} {fn:Func} {c:Code} (hf:P.funcs[f]? =some fn) (hb:fn.body=some c) (hn:(fn.name== "runtime.NumGoroutine")=false):Callable P f:=by
 intro args w
 have hn': ¬fn.name= "runtime.NumGoroutine" :=by simpa using hn
 simp [callFunc,hf,hb,hn']
def wkOne:WK→AV→AV
 | .sl f0 t,.one v=> .one (wkS f0 t v)
 | .sl f0 _,.arr fr t' xs=> .one (.sl (fr&&f0) t' none xs)
 | .arr t,.one .nils=> .arr true t []
 | .mp f0 kt vt,.one v=> .one (wkM f0 kt vt v)
 | .mp f0 kt vt,.mapO fr kt' vt' es=> .one (.sm (fr&&f0) kt' vt' es)
 | .cells l,.agg cs=> .agg (wkCl l 0 cs)
 |_,v=>v
def wkComps:List WK→List (Bool×List SV)→List (Bool×List SV)
 | .sl f0 t::ws,(false,[v])::r=>(false,[wkS f0 t v])::wkComps ws r
 | .mp f0 kt vt::ws,(false,[v])::r=>(false,[wkM f0 kt vt v])::wkComps ws r
 | .cells l::ws,(true,cs)::r=>(true,wkCl l 0 cs)::wkComps ws r
 |_::ws,p::r=>p::wkComps ws r
 |[],l=>l
 |_,[]=>[]
def wk (ws:List WK) (r:AV):AV:=
 match r,ws with
 | .tup l,ws=> .tup (wkComps ws l)
 |v,[w]=>wkOne w v
 |v,_=>v
def KretW (tb:Tab) (rs:List ResultVar) (ws:List WK) (e:AE) (st:St):Option AV:=
 match Kret tb rs e st with
 |some r=>some (wk ws r)
 |none=>none
section
variable {w w':World} {okA:Nat→Prop} {μ:Locs} {ok:OK}
theorem wkComps_rel (hT: ∀b,ok true b→ok false b): ∀ {ws:List WK} {l:List (Bool×List SV)} {vs:List Value},All2 (compRel w μ ok) l vs→All2 (compRel w μ ok) (wkComps ws l) vs:=by
 intro ws
 induction ws with
 |nil=>intro l vs h;cases l<;>exact h
 |cons k ws ih=>
  intro l vs h
  cases h with
  |nil=>cases k<;>exact .nil
  | @cons p v l vs hp hl=>
    have keep:All2 (compRel w μ ok) (p::wkComps ws l) (v::vs):= .cons hp (ih hl)
    cases k with
    |id=>exact keep
    |arr t=>exact keep
    |cells q=>
     obtain⟨f,cs⟩:=p
     cases f with
     |true=>
      obtain⟨us,e,hu⟩:=hp
      exact .cons ⟨us,e,wkCl_rel hT q 0 hu⟩ (ih hl)
     |false=>exact keep
    |mp f0 kt vt=>
     obtain⟨f,cs⟩:=p
     cases f with
     |true=>exact keep
     |false=>
      match cs,hp,keep with
      |[],_,keep=>exact keep
      |[x],hp,_=>
       obtain⟨y,e,hy⟩:=hp
       simp only[List.cons.injEq,and_true]at e
       subst e
       exact .cons ⟨_,rfl,wkM_rel hT hy⟩ (ih hl)
      |_::_::_,_,keep=>exact keep
    |sl f0 t=>
     obtain⟨f,cs⟩:=p
     cases f with
     |true=>exact keep
     |false=>
      match cs,hp,keep with
      |[],_,keep=>exact keep
      |[x],hp,_=>
       obtain⟨y,e,hy⟩:=hp
       simp only[List.cons.injEq,and_true]at e
       subst e
       exact .cons ⟨_,rfl,wkS_rel hT hy⟩ (ih hl)
      |_::_::_,_,keep=>exact keep
theorem wk_rel {ws:List WK} {r:AV} {v:Value} (h:ResRel w okA w' r v):ResRel w okA w' (wk ws r) v:=by
 obtain⟨ok',h1,h2,h3⟩:=h
 cases r with
 |tup l=>
  obtain⟨vs,e,hh⟩:=h3
  exact⟨ok',h1,h2,vs,e,wkComps_rel h2 hh⟩
 |one x=>
  match ws with
  |[]=>exact⟨ok',h1,h2,h3⟩
  |_::_::_=>exact⟨ok',h1,h2,h3⟩
  |[k]=>
   cases k with
   |id=>exact⟨ok',h1,h2,h3⟩
   |cells q=>exact⟨ok',h1,h2,h3⟩
   |arr t=>
    cases x with
    |nils=>
     obtain rfl:v= .slice none 0 0:=h3
     exact⟨ok',h1,h2,⟨none,0,0⟩,rfl,⟨rfl,Nat.le_refl _,by show(0:Nat)≤_;omega,.inl ⟨rfl,rfl,rfl⟩⟩,fun b hb=>by cases hb⟩
    |_=>exact⟨ok',h1,h2,h3⟩
   |mp f0 kt vt=>
    refine⟨ok',h1,h2, ?_⟩
    show AVRel w' μ0 ok' (.one (wkM f0 kt vt x)) v
    have h3:AVRel w' μ0 ok' (.one x) v:=h3
    by_cases hj:x= .junk
    ·subst hj;trivial
    ·rw[AVRel.eq1 hj]at h3
     rw[AVRel.eq1 (wkM_junk hj)]
     exact wkM_rel h2 h3
   |sl f0 t=>
    refine⟨ok',h1,h2, ?_⟩
    show AVRel w' μ0 ok' (.one (wkS f0 t x)) v
    have h3:AVRel w' μ0 ok' (.one x) v:=h3
    by_cases hj:x= .junk
    ·subst hj;trivial
    ·rw[AVRel.eq1 hj]at h3
     rw[AVRel.eq1 (wkS_junk hj)]
     exact wkS_rel h2 h3
 |arr fr t xs=>
  match ws with
  |[]=>exact⟨ok',h1,h2,h3⟩
  |_::_::_=>exact⟨ok',h1,h2,h3⟩
  |[.id]=>exact⟨ok',h1,h2,h3⟩
  |[.cells _]=>exact⟨ok',h1,h2,h3⟩
  |[.arr _]=>exact⟨ok',h1,h2,h3⟩
  |[.mp _ _ _]=>exact⟨ok',h1,h2,h3⟩
  |[.sl f0 _]=>
   obtain⟨l,e1,e2,e3⟩:=h3
   refine⟨fun f b=>ok' f b∨l.b=some b,fun f b hb=> ?_,fun b hb=>hb.imp (h2 b) id, ?_⟩
   ·rcases hb with hb|hb
    ·exact h1 f b hb
    ·exact .inl ⟨(e3 b hb).1,(e3 b hb).2.1⟩
   ·refine⟨?_,trivial⟩
    have hs:=slv_rel (okA:=fun b=>ok' (fr&&f0) b∨l.b=some b) e2 (fun b hb=> .inl ?_) (fun b hb=> .inr hb) xs.length (Nat.le_refl _)
    ·rw[List.take_length]at hs
     rw[e1]
     have:slv l none=slv l (some xs.length):=by unfold slv;simp [e2.1]
     rw[this]
     exact hs
    ·cases fr with
     |true=>cases f0 with
      |true=>exact hb
      |false=>exact h2 b hb
     |false=>exact hb
 |own cs=>
  match ws with
  |[]=>exact⟨ok',h1,h2,h3⟩
  |_::_::_=>exact⟨ok',h1,h2,h3⟩
  |[.cells _]=>exact⟨ok',h1,h2,h3⟩
  |[.id]=>exact⟨ok',h1,h2,h3⟩
  |[.arr _]=>exact⟨ok',h1,h2,h3⟩
  |[.sl _ _]=>exact⟨ok',h1,h2,h3⟩
  |[.mp _ _ _]=>exact⟨ok',h1,h2,h3⟩
 |gho o=>exact h3.elim
 |mapO fr kt' vt' es=>
  match ws with
  |[]=>exact⟨ok',h1,h2,h3⟩
  |_::_::_=>exact⟨ok',h1,h2,h3⟩
  |[.cells _]=>exact⟨ok',h1,h2,h3⟩
  |[.id]=>exact⟨ok',h1,h2,h3⟩
  |[.arr _]=>exact⟨ok',h1,h2,h3⟩
  |[.sl _ _]=>exact⟨ok',h1,h2,h3⟩
  |[.mp f0 kt vt]=>
   obtain⟨b,e1,e2,e3,e4,e5⟩:=h3
   refine⟨fun f k=>ok' f k∨k=b,fun f k hk=> ?_,fun k hk=>hk.imp (h2 k) id, ?_⟩
   ·rcases hk with hk|rfl
    ·exact h1 f k hk
    ·exact .inl ⟨e3,e4⟩
   ·have weak: ∀k,ok' fr k→ok' (fr&&f0) k∨k=b:=fun k hb=> .inl (by
     cases fr with
     |true=>cases f0 with
      |true=>exact hb
      |false=>exact h2 k hb
     |false=>exact hb)
    exact .inr ⟨b,e1,.inr rfl,e2.mono (fun _ _=>rfl) weak rfl⟩
 |agg cs=>
  match ws with
  |[]=>exact⟨ok',h1,h2,h3⟩
  |_::_::_=>exact⟨ok',h1,h2,h3⟩
  |[.cells q]=>
   obtain⟨us,e,hu⟩:=h3
   exact⟨ok',h1,h2,us,e,wkCl_rel h2 q 0 hu⟩
  |[.id]=>exact⟨ok',h1,h2,h3⟩
  |[.arr _]=>exact⟨ok',h1,h2,h3⟩
  |[.sl _ _]=>exact⟨ok',h1,h2,h3⟩
  |[.mp _ _ _]=>exact⟨ok',h1,h2,h3⟩
end
theorem kretW_spec {tb:Tab} {rs:List ResultVar} (ws:List WK): ∀e st r,KretW tb rs ws e st=some r→ ∃r0,Kret tb rs e st=some r0∧ ∀w okA w' v,ResRel w okA w' r0 v→ResRel w okA w' r v:=by
 intro e st r h
 unfold KretW at h
 split at h
 ·rename_i r0 h0
  cases h
  exact⟨r0,h0,fun _ _ _ _ h=>wk_rel h⟩
 ·cases h
theorem goodS_of (ws:List WK) {P:Program} {tb:Tab} {Γ:Orc} (hM:P.follows .mixedOrders=true) (hP:TabOk P tb) (hΓ:OrcOk P Γ) {f:FuncId} {fn:Func} {c:Code} {n:Nat} {rs:List ResultVar} (hf:P.funcs[f]? =some fn) (hb:fn.body=some c)
 (hname:(fn.name== "runtime.NumGoroutine")=false) (hn:fn.ntmps=n) (hrs:fn.results.toList=rs) (ms:Lay) (hms:n=ms.n) (Λ:Lam AV) (hL: ∀p∈loopsOf 0 c,LoopP tb Γ Λ ms p) (ks:List AK) (hk:ks.length≤n) (g:ADen ks→Bool×AV)
 (h: ∀x r,WFA ks x→g x=(true,r)→aexec tb Γ Λ ms c 0 (st0 (encA ks x) n) (KretW tb rs ws)=some r) (hlo:LoOk Γ n:=by exact lo_none rfl):GoodS P f (.fn ks g):=by
 refine GoodS.fn (callable_of hf hb hname) fun x r hw hg=> ?_
 have hx:=h x r hw hg
 have hlen:(encA ks x).length=ks.length:=by
  clear hx h hg hw
  induction ks with
  |nil=>rfl
  |cons k ks ih=>
   cases ks with
   |nil=>rfl
   |cons k' ks=>simp only[encA,List.length_cons];rw[ih (by simp at hk⊢;omega) (fun _=>(false,AV.junk)) x.2];simp
 exact good_of hM hP hΓ hf hb hn hrs _ (by omega) ms hms Λ hL (kretW_spec ws) hx hlo
end Go.AM
