import Derived.Test.YthnonmlhgafalaaGreatZAmFn
import Derived.Defers
set_option linter.unusedVariables false
set_option linter.unusedSectionVars false
namespace Go.AM
def CallsR (P:Program) (f:FuncId) (vs:Array Value) (w:World) (R:Ending→World→Prop):Prop:=
 CallsD P f vs .returning w fun e u' w'=>u'= .returning∧R e w'
theorem CallsR.mono {P:Program} {f:FuncId} {vs:Array Value} {w:World} {R R':Ending→World→Prop} (h:CallsR P f vs w R) (hr: ∀e w',R e w'→R' e w'):CallsR P f vs w R':=
 CallsD.mono h fun e u' w' hh=>⟨hh.1,hr e w' hh.2⟩
section
variable {P:Program} {mine:Cx} {w0:World} {st:St} {a:Act} {w:World} {μ:Locs} {ok:OK} {tb:Tab} {Γ Γd:Orc}
theorem goodD_ofIO (hM:P.follows .mixedOrders=true) (hP:TabOk P tb) (hΓ:OrcOk P Γ) {f:FuncId} {fn:Func} {c:Code} {n:Nat} {rs:List ResultVar} (hf:P.funcs[f]? =some fn) (hb:fn.body=some c) (hn:fn.ntmps=n) (hrs:fn.results.toList=rs)
 (args gs:List AV) (p:Nat) {ys hs:List AV} (hys:renAs true (fun k=>some (n+k)) args=some ys) (hhs:renAs true (fun k=>some (n+k)) gs=some hs) (hgo:gs.all AV.isOwner=true) (hp:p≤gs.length) (hl:args.length≤n) (ms:Lay) (hms:n=ms.n) (hmg:gs.length≤ms.g) (Λ:Lam (AV×List AV))
 (hL: ∀p∈loopsOf 0 c,LoopP tb Γ Λ ms p) (ws:List WK) {r:AV} {gs':List AV} (h:aexec tb Γ Λ ms c 0 (st0 ys n++hs.map fun o=> .gho o.ov) (KretIO tb n p rs ws)=some (r,gs')) (hlo:LoOk Γ (n+p):=by exact lo_none rfl):GoodE (CallsR P f) args p gs r gs':=by
 intro w okA vs μ hA hargs hO
 refine callsD_of_wp hf hb ?_
 have hsz:vs.length=args.length:=hargs.length.symm
 obtain⟨μ1,F⟩:=io_start (n:=n) hys hhs hgo hp hl hA hargs hO (tm:=vs.toArray++Array.replicate (fn.ntmps-vs.toArray.size) undef) (by simp [hn,hsz])
 refine aexec_sound hM hP ⟨hΓ,fun x hx=>⟨Nat.le_trans (Nat.le_add_right n p) (hlo x hx),hlo x hx⟩⟩ ms ⟨hms,by show n+p≤_;omega⟩ Λ c 0 _ _ w μ1 _ _ _ hL F h ?_ ?_
 rotate_left
 ·intro c a w h
  obtain⟨_,v,e,_⟩:=h
  cases e
 intro e st' tm' w' μ' ok' F' h'
 cases e with
 |exit id=>cases h'
 |normal=>obtain⟨v,h1,h2⟩:=io_end hP hrs F' h';exact⟨rfl,v,h1,v,rfl,h2⟩
 |ret=>obtain⟨v,h1,h2⟩:=io_end hP hrs F' h';exact⟨rfl,v,h1,v,rfl,h2⟩
theorem io_startR {n:Nat} {args gs:List AV} {p:Nat} {ys hs:List AV} (hys:renAs true (fun k=>some (n+k)) args=some ys) (hhs:renAs true (fun k=>some (n+k)) gs=some hs) (hgo:gs.all AV.isOwner=true) (hp:p≤gs.length) (hl:args.length≤n)
 {okA:Nat→Prop} {vs:List Value} {μ:Locs} (hA:BaseOk w okA∧ ∀g l,glGet g=some l→ ¬ioMine gs μ g) (hargs:All2 (AVRel w μ (argOK okA)) args vs) (hO:OwnsOk w μ (argOK okA) gs) {tm:Array Value} {us:List Value} (hus:us.length=n-args.length) (htm:tm.toList=vs++us):
 ∃μ1,Facts ⟨ioMine gs μ,okA,n,n+p,fun i=>if n≤i∧i<n+p then some (μ (i-n))else none⟩ w (st0 ys n++hs.map fun o=> .gho o.ov) tm w μ1 (argOK okA):=by
 obtain⟨hyl,_⟩:=renAs_get hys
 obtain⟨hhl,hhget⟩:=renAs_get hhs
 have hsz:vs.length=args.length:=hargs.length.symm
 obtain⟨μ1,hμ1⟩: ∃μ1:Locs,μ1=fun i=>if n≤i then μ (i-n)else⟨none,0,0⟩:=⟨_,rfl⟩
 have hRen:Ren μ μ1 (argOK okA) (argOK okA) true (fun k=>some (n+k)):=
  ⟨fun s k h=>by cases h;rw[hμ1];simp only;rw[if_pos (by omega),Nat.add_sub_cancel_left],fun fr b h=>by rw[Bool.and_true];exact h⟩
 have hargs':=renAs_rel hRen hargs hys
 have hlen0:(st0 ys n).length=n:=by simp [st0];omega
 have hatl: ∀i,i<n→(∃x v,St.at (st0 ys n++hs.map fun o=> .gho o.ov) i=x∧tm.getD i undef=v∧AVRel w μ1 (argOK okA) x v)∨St.at (st0 ys n++hs.map fun o=> .gho o.ov) i= .one .junk:=by
  intro i hi
  rw[St.at_append,hlen0,if_pos hi]
  unfold St.at st0
  rcases Nat.lt_or_ge i ys.length with hi|hi
  ·left
   obtain⟨v,hv,hr⟩:=hargs'.get i ys[i] (List.getElem?_eq_getElem hi)
   refine⟨ys[i],v,by simp [List.getD_eq_getElem?_getD,List.getElem?_append_left hi,hi], ?_,hr⟩
   rw[Array.getD_eq_getD_getElem?,←Array.getElem?_toList,htm,List.getElem?_append_left (by omega),hv];rfl
  ·right
   simp only[List.getD_eq_getElem?_getD,List.getElem?_append_right hi,List.getElem?_replicate]
   split<;>rfl
 have hatg: ∀i,n≤i→(∃k g h',i=n+k∧gs[k]? =some g∧ownAt gs k=g∧renA true (fun k=>some (n+k)) g=some h'∧g.isOwner=true∧St.at (st0 ys n++hs.map fun o=> .gho o.ov) i= .gho h'.ov∧St.ow (st0 ys n++hs.map fun o=> .gho o.ov) i=h')∨
  (St.at (st0 ys n++hs.map fun o=> .gho o.ov) i= .one .junk∧n+gs.length≤i):=by
  intro i hi
  rcases Nat.lt_or_ge (i-n) gs.length with hlt|hge
  ·left
   obtain⟨h',e1,e2⟩:=hhget (i-n) gs[i-n] (List.getElem?_eq_getElem hlt)
   have ho:(gs[i-n]).isOwner=true:=List.all_eq_true.1 hgo _ (List.getElem_mem hlt)
   have hat:St.at (st0 ys n++hs.map fun o=> .gho o.ov) i= .gho h'.ov:=by
    rw[St.at_append,hlen0,if_neg (by omega)]
    unfold St.at
    simp [List.getD_eq_getElem?_getD,e1]
   refine⟨i-n,_,h',by omega,List.getElem?_eq_getElem hlt,by unfold ownAt;simp [List.getD_eq_getElem?_getD,hlt],e2,ho,hat, ?_⟩
   unfold St.ow
   rw[hat]
   exact ov_av (.inl (by rw[renA_owner e2];exact ho))
  ·right
   refine⟨St.at_out _ _ (by simp [hlen0,hhl];omega),by omega⟩
 have hlow: ∀i,i<n→(St.at (st0 ys n++hs.map fun o=> .gho o.ov) i).isOwner=false∧(St.at (st0 ys n++hs.map fun o=> .gho o.ov) i).isGho=false:=by
  intro i hi
  rcases hatl i hi with⟨x,v,rfl,_,hr⟩|h
  ·exact⟨by cases hx:St.at (st0 ys n++hs.map fun o=> .gho o.ov) i<;>first|rfl|(rw[hx]at hr;exact hr.elim),hr.noGho⟩
  ·rw[h];exact⟨rfl,rfl⟩
 have howl: ∀i,i<n→St.ow (st0 ys n++hs.map fun o=> .gho o.ov) i=St.at (st0 ys n++hs.map fun o=> .gho o.ov) i:=fun i hi=>AV.un_id (hlow i hi).2
 have hownG: ∀i,(St.ow (st0 ys n++hs.map fun o=> .gho o.ov) i).isOwner=true→ ∃k,i=n+k∧(ownAt gs k).isOwner=true∧μ1 i=μ k:=by
  intro i hi
  rcases Nat.lt_or_ge i n with hlt|hge
  ·rw[howl i hlt,(hlow i hlt).1]at hi;cases hi
  ·rcases hatg i hge with⟨k,g,h',e1,e2,e3,e4,e5,e6,e7⟩|⟨h,_⟩
   ·refine⟨k,e1,by rw[e3];exact e5, ?_⟩
    rw[hμ1,e1];simp only;rw[if_pos (by omega),Nat.add_sub_cancel_left]
   ·unfold St.ow at hi;rw[h]at hi;cases hi
 refine⟨μ1, ?_⟩
 have hsn:tm.size=n:=by
  have:tm.size=tm.toList.length:=by simp
  rw[this,htm];simp [hsz,hus];omega
 refine⟨fun i=> ?_,fun i=> ?_,hsn,fun i h1 h2=> ?_,fun i h1=>(hlow i h1).2, ?_,fun i l h=> ?_,fun i b hi hb=> ?_,fun i j b hi hj hib hjb=> ?_,fun b hb=>hA.1.lt b hb.2,fun b hb=> ?_,fun b hb=> ?_,⟨fun b hb=> .inr hb.2,hA.1.glob,hA.2⟩,⟨rfl,rfl,rfl,Nat.le_refl _,fun _ _ _=>rfl⟩⟩
 ·rcases Nat.lt_or_ge i n with hlt|hge
  ·rcases hatl i hlt with⟨x,v,h1,h2,hr⟩|h
   ·rw[h1,h2]
    exact SlotRel.of_av (by rw[←h1];exact(hlow i hlt).1) hr
   ·rw[h];trivial
  ·rcases hatg i hge with⟨k,g,h',e1,e2,e3,e4,e5,e6,e7⟩|⟨h,_⟩
   ·rw[e6];trivial
   ·rw[h];trivial
 ·rcases Nat.lt_or_ge i n with hlt|hge
  ·rw[howl i hlt]
   have:=(hlow i hlt).1
   cases hx:St.at (st0 ys n++hs.map fun o=> .gho o.ov) i<;>first|trivial|(rw[hx]at this;cases this)
  ·rcases hatg i hge with⟨k,g,h',e1,e2,e3,e4,e5,e6,e7⟩|⟨h,_⟩
   ·rw[e7]
    exact renOwn_rel hRen (by rw[hμ1,e1];simp only;rw[if_pos (by omega),Nat.add_sub_cancel_left]) (e3▸hO.own k) e4
   ·unfold St.ow;rw[h];trivial
 ·rcases hatg i h1 with⟨k,g,h',e1,e2,e3,e4,e5,e6,e7⟩|⟨_,h⟩
  ·rw[e6];rfl
  ·simp [hlen0,hhl]at h2;simp only at h1;omega
 ·simp [hlen0,hhl];omega
 ·simp only at h
  split at h
  ·rename_i hi
   cases h
   refine⟨hi.1,hi.2, ?_⟩
   rw[hμ1];simp only;rw[if_pos hi.1]
  ·cases h
 ·obtain⟨k,e1,e2,e3⟩:=hownG i hi
  rw[e3]at hb
  obtain⟨b1,b2⟩:=hO.blk k b e2 hb
  exact⟨b1,.inr ⟨k,e2,hb⟩,b2⟩
 ·obtain⟨k,e1,e2,e3⟩:=hownG i hi
  obtain⟨k',f1,f2,f3⟩:=hownG j hj
  rw[e3]at hib
  rw[f3]at hjb
  rw[e1,f1,hO.inj k k' b e2 f2 hib hjb]
 ·cases hb.1
 ·cases hb.1
def bodyPostN (P:Program) (fn:Func) (R:Ending→World→Prop) (e:Exit) (a:Act) (w:World):Prop:=
 match e with
 | .panic _=>False
 |e=>bodyPostD P fn R e a w
def RestE (P:Program) (fn:Func) (c:Code) (k:Nat) (vs:Array Value) (w:World) (R:Ending→World→Prop):Prop:=
 ∀(us:List Value) (g:FuncId) (cap:Array Value) (R':Ending→World→Prop),us.length=fn.ntmps-vs.size→vs.getD k undef= .func (.func g) #[] cap→(∀e w',R e w'→R' e w')→c.wp P (bodyPostN P fn R') ⟨(vs.toList++us).toArray,[⟨.fn (.func g) cap, #[]⟩]⟩ w
def fastCaps (n p:Nat):List Cap→Bool
 |[]=>true
 | .ref s _::r=>Nat.ble n s&&Nat.blt s (n+p)&&fastCaps n p r
 |_=>false
def rsOff (k:Nat):List ResultVar→Bool
 |[]=>true
 | .tmp t::r=> !Nat.beq t k&&rsOff k r
 | .cell t _::r=> !Nat.beq t k&&rsOff k r
def Kd (tb:Tab) (Γd:Orc) (n p:Nat) (rs:List ResultVar) (ws:List WK) (k:Nat) (fv:SV) (e:AE) (st:St):Option (AV×List AV):=
 match e with
 | .exit _=>none
 |_=>
  match mdCall0 true Γd (st.put k (.one fv)) none (rd (st.put k (.one fv)) (.tmp k)) []with
  |some (true,st')=>KretIO tb n p rs ws .ret st'
  |_=>none
theorem fast_rel {w w':World} {μ μ':Locs} {ok ok':OK} {n p:Nat} (h: ∀s,n≤s→s<n+p→μ' s=μ s): ∀ {caps:List Cap} {vs:List Value},fastCaps n p caps=true→All2 (CapRel w μ ok) caps vs→All2 (CapRel w' μ' ok') caps vs:=by
 intro caps
 induction caps with
 |nil=>intro vs _ h;cases h;exact .nil
 |cons c caps ih=>
  intro vs hf hv
  cases hv with
  | @cons _ v _ vs h1 h2=>
    cases c with
    |ref s off=>
     simp only[fastCaps,Bool.and_eq_true]at hf
     obtain⟨⟨f1,f2⟩,f3⟩:=hf
     have f1:=Nat.le_of_ble_eq_true f1
     have f2:s<n+p:=Nat.le_of_ble_eq_true f2
     refine .cons ?_ (ih f3 h2)
     obtain⟨b,e1,e2⟩:=(h1: ∃b,(μ s).b=some b∧v= .pointer (some ⟨b,off,none⟩))
     exact⟨b,by rw[h s f1 f2];exact e1,e2⟩
    |_=>cases hf
theorem results_off {fn:Func} {k:Nat} {tm:Array Value} {x:Value} {rs:List ResultVar} (hrs:fn.results.toList=rs) (h:rsOff k rs=true):results fn (tm.setIfInBounds k x)=results fn tm:=by
 have hv: ∀(l:List ResultVar),rsOff k l=true→l.mapM (runVar (tm.setIfInBounds k x))=l.mapM (runVar tm):=by
  intro l
  induction l with
  |nil=>intro _;rfl
  |cons r l ih=>
   intro h
   have h1:runVar (tm.setIfInBounds k x) r=runVar tm r∧rsOff k l=true:=by
    cases r with
    |tmp t=>
     simp only[rsOff,Bool.and_eq_true,Bool.not_eq_true']at h
     have:k≠t:=fun e=>by rw[e,Nat.beq_refl]at h;cases h.1
     exact⟨by simp [runVar,Array.getD_eq_getD_getElem?,this],h.2⟩
    |cell t T=>
     simp only[rsOff,Bool.and_eq_true,Bool.not_eq_true']at h
     have:k≠t:=fun e=>by rw[e,Nat.beq_refl]at h;cases h.1
     exact⟨by simp [runVar,Array.getD_eq_getD_getElem?,this],h.2⟩
   rw[List.mapM_cons,List.mapM_cons,h1.1,ih h1.2]
 rw[results_eq,results_eq]
 have:fn.results.mapM (runVar (tm.setIfInBounds k x))=fn.results.mapM (runVar tm):=by
  rw[show fn.results=rs.toArray by rw[←hrs],List.mapM_toArray,List.mapM_toArray,hv rs h]
 rw[this]
theorem good_rest (hM:P.follows .mixedOrders=true) (hP:TabOk P tb) (hΓ:OrcOk P Γ) (hE: ∀f xs p gs r gs',Γd.io f xs p gs=some (true,r,gs')→Callable P f∧GoodE (CallsR P f) xs p gs r gs') (hdl:Γd.lo=none)
 {fn:Func} {c:Code} {cur n k:Nat} {rs:List ResultVar} (hn:fn.ntmps=n) (hrs:fn.results.toList=rs) (hk:rsOff k rs=true) (hkn:k<n)
 (args gs:List AV) (p:Nat) {ys hs:List AV} (hys:renAs true (fun k=>some (n+k)) args=some ys) (hhs:renAs true (fun k=>some (n+k)) gs=some hs) (hgo:gs.all AV.isOwner=true) (hp:p≤gs.length) (hl:args.length≤n) (hka:k<args.length) (ms:Lay) (hms:n=ms.n) (hmg:gs.length≤ms.g) (Λ:Lam (AV×List AV))
 (hL: ∀p∈loopsOf cur c,LoopP tb Γ Λ ms p) (ws:List WK) {g0:FuncId} {caps:List Cap} (hfv:ys[k]? =some (.one (.fn g0 caps))) (hfast:fastCaps n p caps=true)
 {r:AV} {gs':List AV} (h:aexec tb Γ Λ ms c cur (st0 ys n++hs.map fun o=> .gho o.ov) (Kd tb Γd n p rs ws k (.fn g0 caps))=some (r,gs')) (hlo:LoOk Γ (n+p):=by exact lo_none rfl):GoodE (RestE P fn c k) args p gs r gs':=by
 intro w okA vs μ hA hargs hO us g cap R' hus hg hR'
 have hsz:vs.length=args.length:=hargs.length.symm
 have hus':us.length=n-args.length:=by rw[hus,hn];simp [hsz]
 obtain⟨μ1,F⟩:=io_startR (n:=n) hys hhs hgo hp hl hA hargs hO (tm:=(vs++us).toArray) hus' (by simp)
 have hat:St.at (st0 ys n++hs.map fun o=> .gho o.ov) k= .one (.fn g0 caps):=by
  have hk':=(List.getElem?_eq_some_iff.1 hfv).1
  unfold St.at st0
  have hyl:=(renAs_get hys).1
  rw[List.getD_eq_getElem?_getD,List.getElem?_append_left (by simp;omega),List.getElem?_append_left hk',hfv];rfl
 have hslot:=F.slots k
 have hg2:(vs++us).toArray.getD k undef= .func (.func g) #[] cap:=by
  rw[←hg]
  have hk2:k<vs.length:=by omega
  simp [Array.getD_eq_getD_getElem?,List.getElem?_append_left hk2]
 rw[hat,hg2]at hslot
 obtain⟨cvs,e1,hcaps⟩:=(hslot: ∃vs:List Value,Value.func (.func g) #[] cap= .func (.func g0) #[] vs.toArray∧All2 (CapRel w μ1 (argOK okA)) caps vs)
 simp only[Value.func.injEq,Fn.func.injEq,true_and]at e1
 obtain⟨rfl,rfl⟩:=e1
 have hpin1: ∀s,n≤s→s<n+p→μ1 s=μ (s-n):=fun s h1 h2=>(F.pin s (μ (s-n)) (by show(if n≤s∧s<n+p then some (μ (s-n))else none)=_;rw[if_pos ⟨h1,h2⟩])).2.2
 refine aexec_sound (ds:=[⟨.fn (.func g) cvs.toArray, #[]⟩]) hM hP ⟨hΓ,fun x hx=>⟨Nat.le_trans (Nat.le_add_right n p) (hlo x hx),hlo x hx⟩⟩ ms ⟨hms,by show n+p≤_;omega⟩ Λ c cur _ _ w μ1 _ _ _ hL F h ?_ ?_
 rotate_left
 ·intro c a w h
  exact h
 intro e st' tm' w' μ' ok' F' h'
 have hpin2: ∀s,n≤s→s<n+p→μ' s=μ (s-n):=fun s h1 h2=>(F'.pin s (μ (s-n)) (by show(if n≤s∧s<n+p then some (μ (s-n))else none)=_;rw[if_pos ⟨h1,h2⟩])).2.2
 have hfn:AVRel w' μ' ok' (.one (.fn g caps)) (.func (.func g) #[] cvs.toArray):=⟨cvs,rfl,fast_rel (fun s h1 h2=>by rw[hpin1 s h1 h2,hpin2 s h1 h2]) hfast hcaps⟩
 have F2:=F'.putV k hfn rfl
 have fin:(match mdCall0 true Γd (st'.put k (.one (.fn g caps))) none (rd (st'.put k (.one (.fn g caps))) (.tmp k)) []with
  |some (true,st'')=>KretIO tb n p rs ws .ret st''
  |_=>none)=some (r,gs')→Leaves P fn tm' R' [⟨.fn (.func g) cvs.toArray, #[]⟩] .returning w':=by
  intro hh
  split at hh
  ·rename_i st'' hc
   obtain⟨g2,vs2,hrun,hcall⟩:=mdCall0_gen (a:=⟨tm'.setIfInBounds k (.func (.func g) #[] cvs.toArray),[]⟩) (E:=CallsR P) CallsR.mono hE (fun x hx=>by rw[hdl]at hx;cases hx) F2
    (o:= { dst:=none,op:= .call { callee:= .value (.tmp k),args:= #[],argTypes:= #[]},type:=0,pos:= "",after:= #[],guard:=none}) (f:= .tmp k) (args:= #[]) (ts:= #[]) rfl hc
   have hev:Act.eval ⟨tm'.setIfInBounds k (.func (.func g) #[] cvs.toArray),[]⟩ (.tmp k)= .func (.func g) #[] cvs.toArray:=by
    have:tm'.size=n:=F'.size
    simp [Act.eval,this,hkn]
   have hinv:(invoke (.fn (.func g) cvs.toArray) #[]).run P w'= .ok (.enter g2 vs2) w':=by
    rw[←hrun]
    simp [execOp,resolve,hev,Deferred.ofValue]
   refine leaves_cons (by intro e;cases e) hinv ?_
   refine CallsD.mono hcall fun e u' w2 hh2=> ?_
   obtain⟨rfl,v,rfl,hnext⟩:=hh2
   show Leaves P fn tm' R' [] (settle .returning) w2
   refine hnext (fun a w=>a.tmps=tm'.setIfInBounds k (.func (.func g) #[] cvs.toArray)→Leaves P fn tm' R' [] (settle .returning) w) ?_ rfl
   intro tm2 w1 μ2 ok2 F3 e
   have e:tm2=tm'.setIfInBounds k (.func (.func g) #[] cvs.toArray):=e
   obtain⟨v2,h1,h2⟩:=io_end hP hrs F3 hh
   exact⟨v2,by rw[←h1,e,results_off hrs hk],hR' _ _ ⟨v2,rfl,h2⟩⟩
  ·cases hh
 cases e with
 |exit id=>cases h'
 |normal=>exact fin h'
 |ret=>exact fin h'
noncomputable instance:Same (List AV×List AV) where
 eq a b:= @decide (a=b) (Classical.propDecidable _)
 sound a b h:= @of_decide_eq_true _ (Classical.propDecidable _) h
def expo (m:Nat) (L:List Nat) (st:St):Option (List AV×List AV):=
 match renAs false (fun s=>posN s L 0) ((List.range m).map (rdSlot st)),renAs false (fun s=>posN s L 0) (L.map st.ow)with
 |some ys,some gs=>bif distN L&&gs.all AV.isOwner then some (ys,gs)else none
 |_,_=>none
def Kp (tb:Tab) (Γ:Orc) (ops:List Oper) (m:Nat) (L:List Nat) (om:Oper) (e:AE) (st:St):Option (List AV×List AV):=
 match e with
 | .normal=>stepG tb Γ ops st om fun st'=>expo m L st'
 |_=>none
theorem expo_ok (F:Facts mine w0 st a.tmps w μ ok) {m:Nat} (hm:m≤mine.n) {L:List Nat} {ys gs:List AV} (h:expo m L st=some (ys,gs)):
 All2 (AVRel w (fun k=>μ (nthN L k)) (argOK (ok false))) ys (a.tmps.toList.take m)∧OwnsOk w (fun k=>μ (nthN L k)) (argOK (ok false)) gs∧gs.all AV.isOwner=true∧
  (∀b,ioMine gs (fun k=>μ (nthN L k)) b→w0.heap.size≤b∨mine.mine b):=by
 unfold expo at h
 split at h
 ·rename_i ys' gs' hys hgs
  cases hd:(distN L&&gs'.all AV.isOwner)with
  |false=>rw[hd]at h;cases h
  |true=>
   rw[hd]at h
   cases h
   simp only[Bool.and_eq_true]at hd
   have hnd:=distN_nodup hd.1
   have hRen:Ren μ (fun k=>μ (nthN L k)) ok (argOK (ok false)) false (fun s=>posN s L 0):=
    ⟨fun s k h=>by show μ (nthN L k)=μ s;rw[posN_nth h],fun fr b h=>by rw[Bool.and_false];exact⟨rfl,F.ok_any h⟩⟩
   have hall:All2 (AVRel w μ ok) ((List.range m).map (rdSlot st)) (a.tmps.toList.take m):=by
    have hsz:a.tmps.size=mine.n:=F.size
    have e:a.tmps.toList.take m=((List.range m).map Operand.tmp).map a.eval:=by
     apply List.ext_getElem
     ·simp [hsz];omega
     ·intro i h1 h2
      simp at h1
      have h3:i<a.tmps.size:=by omega
      simp [Act.eval,h3]
    have:=all2_rd (a:=a) F ((List.range m).map Operand.tmp)
    rw[e]
    rwa [List.map_map]at this
   obtain⟨hglen,hgget⟩:=renAs_get hgs
   simp only[List.length_map]at hglen
   have hown: ∀k,(k<L.length∧ ∃s g,L[k]? =some s∧gs[k]? =some g∧ownAt gs k=g∧renA false (fun s=>posN s L 0) (st.ow s)=some g)∨ownAt gs k= .one .junk:=by
    intro k
    rcases Nat.lt_or_ge k L.length with hlt|hge
    ·left
     obtain⟨y,e1,e2⟩:=hgget k (st.ow L[k]) (by simp [hlt])
     exact⟨hlt,L[k],y,List.getElem?_eq_getElem hlt,e1,by unfold ownAt;rw[List.getD_eq_getElem?_getD,e1];rfl,e2⟩
    ·right
     unfold ownAt;rw[List.getD_eq_getElem?_getD,List.getElem?_eq_none (by omega)];rfl
   refine⟨renAs_rel hRen hall hys,⟨fun k=> ?_,fun k b hko hb=> ?_,fun j k b hj hk hjb hkb=> ?_⟩,hd.2, ?_⟩
   ·rcases hown k with⟨_,s,g,e1,e2,e3,e4⟩|e
    ·rw[e3]
     exact renOwn_rel hRen (by show μ (nthN L k)=μ s;rw[nthN_of e1]) (F.owns s) e4
    ·rw[e];trivial
   ·rcases hown k with⟨_,s,g,e1,e2,e3,e4⟩|e
    ·rw[e3,renA_owner e4]at hko
     simp only[nthN_of e1]at hb
     have:=F.ownB s b hko hb
     exact⟨this.1,fun h=>this.2.2 h.2⟩
    ·rw[e]at hko;cases hko
   ·rcases hown j with⟨hjl,s,g,e1,e2,e3,e4⟩|e
    ·rcases hown k with⟨hkl,s',g',f1,f2,f3,f4⟩|e
     ·rw[e3,renA_owner e4]at hj
      rw[f3,renA_owner f4]at hk
      simp only[nthN_of e1]at hjb
      simp only[nthN_of f1]at hkb
      have hss:=F.inj s s' b hj hk hjb hkb
      subst hss
      exact nodup_inj hnd e1 f1
     ·rw[e]at hk;cases hk
    ·rw[e]at hj;cases hj
   ·rintro b ⟨k,hk1,hk2⟩
    rcases hown k with⟨_,s,y,e1,e2,e3,e4⟩|e
    ·rw[e3,renA_owner e4]at hk1
     simp only[nthN_of e1]at hk2
     exact(F.ownB s b hk1 hk2).2.1
    ·rw[e]at hk1;cases hk1
 ·cases h
theorem good_defer (hM:P.follows .mixedOrders=true) (hP:TabOk P tb) (hΓ:OrcOk P Γ) {f:FuncId} {fn:Func} {c0 c2:Code} {id n k:Nat} {om od:Oper} (hf:P.funcs[f]? =some fn) (hb:fn.body=some (c0.seq ((Code.region id #[om,od] false).seq c2))) (hn:fn.ntmps=n)
 (hod:od.op= .defer { callee:= .value (.tmp k),args:= #[],argTypes:= #[]}) (hg2:od.guard=none) (hd2:od.dst=none) (hkn:k<n)
 (args:List AV) {ys:List AV} (hys:renAs true (fun k=>some (n+k)) args=some ys) (hl:args.length≤n) (ms:Lay) (hms:n=ms.n) (Λ:Lam (List AV×List AV)) (hL: ∀p∈loopsOf 0 c0,LoopP tb Γ Λ ms p) (L:List Nat) (m:Nat) (hm:m≤n) (hkm:k<m)
 {as gs:List AV} (hpre:aexec tb Γ Λ ms c0 0 (st0 ys n) (Kp tb Γ [om,od] m L om)=some (as,gs)) {g:FuncId} {caps:List Cap} (hfv:as[k]? =some (.one (.fn g caps)))
 (p:Nat) {r:AV} {gs':List AV} (hrest:GoodE (RestE P fn c2 k) as p gs r gs') (hr:r.isRef=false) (hlo:LoOk Γ n:=by exact lo_none rfl):Good P f args r:=by
 intro w okA vs hA hargs
 refine calls_of_wp_defers hf hb ?_
 have hsz:vs.length=args.length:=hargs.length.symm
 have h0: ∀b,¬ioMine [] μ0 b:=by rintro b ⟨k,hk,_⟩;cases hk
 obtain⟨μ1,F⟩:=io_start (n:=n) (gs:=[]) (hs:=[]) (p:=0) (μ:=μ0) hys rfl rfl (Nat.le_refl _) hl ⟨hA,fun g l _=>h0 g⟩ hargs ⟨fun k=>trivial,fun k b h=>(by cases h),fun j k b h=>(by cases h)⟩ (tm:=vs.toArray++Array.replicate (fn.ntmps-vs.toArray.size) undef) (by simp [hn,hsz])
 rw[List.map_nil,List.append_nil]at F
 refine wp_mono (Q:=bodyPostN P fn _) ?_ (fun e a w h=>by cases e<;>first|exact h|exact h.elim)
 refine wp_seq (aexec_sound (ds:=[]) hM hP ⟨hΓ,fun x hx=>⟨hlo x hx,by have:=hlo x hx;show n+0≤x;omega⟩⟩ ms ⟨hms,by show n+0≤_;omega⟩ Λ c0 0 _ _ w μ1 _ _ _ hL F hpre ?_ fun c a w h=>h)
 intro e st' tm' w' μ' ok' F' h'
 cases e with
 |exit id=>cases h'
 |ret=>cases h'
 |normal=>
  refine wp_seq (wp_region ?_)
  show wpOps P #[om,od] _ [0,1] _ w'
  rw[wpOps_cons]
  refine stepG_sound (a:=⟨tm',[]⟩) hP ⟨hΓ,fun x hx=>⟨hlo x hx,by have:=hlo x hx;show n+0≤x;omega⟩⟩ F' (ops:= #[om,od]) (o:=om) rfl h' fun st2 tm2 w2 μ2 ok2 F2 h2=> ?_
  rw[wpOps_cons]
  obtain⟨k1,k2,k3,k4⟩:=expo_ok (a:=⟨tm2,[]⟩) F2 hm h2
  have hsz2:tm2.size=n:=F2.size
  obtain⟨v,hv,hvr⟩:=k1.get k _ hfv
  obtain⟨cvs,rfl,_⟩:=(hvr: ∃vs:List Value,v= .func (.func g) #[] vs.toArray∧_)
  have hgd:tm2.getD k undef= .func (.func g) #[] cvs.toArray:=by
   rw[List.getElem?_take,if_pos hkm]at hv
   rw[Array.getD_eq_getD_getElem?,←Array.getElem?_toList,hv];rfl
  have hev:Act.eval ⟨tm2,[]⟩ (.tmp k)= .func (.func g) #[] cvs.toArray:=hgd
  unfold wpOp
  simp only[show(#[om,od]:Array Oper)[1]? =some od from rfl]
  have hw:Region.wanted od (yielded #[om,od] tm2)=true:=by simp [Region.wanted,hg2]
  rw[if_pos hw]
  refine Or.inl ?_
  unfold Oper.wp
  have hrun:(execOp (Act.eval ⟨tm2,[]⟩) od).run P w2= .ok (.defer ⟨.fn (.func g) cvs.toArray, #[]⟩) w2:=by
   simp [execOp,hod,resolve,hev,Deferred.ofValue]
  rw[hrun,Oper.upon_defer,hd2]
  have hB:BaseOk w2 (ok2 false):=⟨fun b hb=>F2.okB b hb,F2.glob⟩
  have hG: ∀g l,glGet g=some l→ ¬ioMine gs (fun k=>μ2 (nthN L k)) g:=by
   intro g' l hg hm
   rcases k4 g' hm with h9|h9
   ·have:=(F2.okS.glob g' l hg).1;omega
   ·exact h0 g' h9
  have:=hrest w2 (ok2 false) (tm2.toList.take m) _ ⟨hB,hG⟩ k1 k2 (tm2.toList.drop m) g cvs.toArray (fun e w'=> ∃v,e= .returned v∧Fr none1 w w'∧ResRel w okA w' r v) (by simp [hn,hsz2];omega) (by
   rw[List.getElem?_take,if_pos hkm]at hv
   simp [Array.getD_eq_getD_getElem?,hkm]
   rw[←Array.getElem?_toList,hv];rfl) ?_
  ·have e9:((tm2.toList.take m).toArray.toList++tm2.toList.drop m).toArray=tm2:=by simp
   rw[e9]at this
   exact this
  ·rintro e w3 ⟨v,rfl,hfr,ok3,μ3,g1,g2,g3,_,_,_⟩
   have hf2:Fr (ioMine [] μ0) w w2:=F2.fr
   refine⟨v,rfl,⟨hfr.os.trans hf2.os,hfr.tape.trans hf2.tape,hfr.output.trans hf2.output,Nat.le_trans hf2.size hfr.size,fun b hb _=> ?_⟩,ok3,fun fr b hb=> ?_,g2, ?_⟩
   ·rw[hfr.block b (Nat.lt_of_lt_of_le hb hf2.size) (fun h=>by
    rcases k4 b h with h9|h9
    ·omega
    ·exact h0 b h9),hf2.block b hb (h0 b)]
   ·rcases g1 fr b hb with⟨q1,q2⟩|⟨q1,q2⟩
    ·exact .inl ⟨Nat.le_trans hf2.size q1,q2⟩
    ·rcases F2.okS.old b q2 with q3|q3
     ·exact .inl ⟨q3,Nat.lt_of_lt_of_le (F2.okB b q2) hfr.size⟩
     ·exact .inr ⟨q1,q3⟩
   ·have h3:AVRel w3 μ0 ok3 r v:=AVRel.mono (fun _ _ _=>rfl) (fun _ _ h=>h) (fun s hs=>by rw[AV.isRef_of_refers hs]at hr;cases hr) g3
    cases r<;>first|exact h3|exact h3.elim
end
end Go.AM
