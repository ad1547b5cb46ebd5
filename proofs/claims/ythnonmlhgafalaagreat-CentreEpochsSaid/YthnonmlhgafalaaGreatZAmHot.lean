import Derived.Test.YthnonmlhgafalaaGreatZAmFn
set_option linter.unusedVariables false
namespace Go.AM
open Go
section
variable {P:Program} {f:FuncId}
theorem ownAt_mem {gs:List AV} {k:Nat} (h:(ownAt gs k).isOwner=true):ownAt gs k∈gs:=by
 unfold ownAt at h⊢
 rw[List.getD_eq_getElem?_getD]at h⊢
 cases hk:gs[k]? with
 |none=>rw[hk]at h;cases h
 |some g=>exact List.mem_of_getElem? hk
theorem GoodIO.hot {T:Ty} {l:List T.D} {rest:List AV} {r:AV} {gs':List AV} (h:GoodIO P f (.one (.sl false T none l)::rest) 0 [] r gs') (hr:r.fresh=true) (hg: ∀g∈gs',g.fresh=true):
 GoodIO P f (.one (.hot 0 none)::rest) 0 [.arr false T l] r gs':=by
 intro w okA vs μ hA hargs hO
 cases hargs with
 | @cons x v xs vs hx hxs=>
 have h0:OwnRel w μ (argOK okA) 0 (.arr false T l):=hO.own 0
 have hb0: ∀b,(μ 0).b=some b→b<w.heap.size:=fun b hb=>(hO.blk 0 b rfl hb).1
 have up: ∀b,argOK okA false b→argOK (fun b=>okA b∨(μ 0).b=some b) false b:=fun b hb=>⟨rfl,.inl hb.2⟩
 have hs:=slv_rel h0 up (fun b hb=>⟨rfl,.inr hb⟩) l.length (Nat.le_refl _)
 rw[List.take_length]at hs
 obtain⟨rfl,_,_⟩:=(hx:SVRel0 w μ (argOK okA) (.hot 0 none) v)
 have hx':AVRel w μ (argOK fun b=>okA b∨(μ 0).b=some b) (.one (.sl false T none l)) (slv (μ 0) none):=by
  rw[AVRel.eq1 (by simp)]
  refine⟨?_,trivial⟩
  unfold slv
  rw[Option.getD_none,h0.1];exact hs
 refine(h w (fun b=>okA b∨(μ 0).b=some b) _ μ ⟨⟨fun b hb=>hb.elim (hA.1.lt b) (hb0 b),hA.1.glob⟩,fun g l' _ hh=>(by obtain⟨k,hk,_⟩:=hh;unfold ownAt at hk;simp [AV.isOwner]at hk)⟩
  (.cons hx' (hxs.imp_mem fun a b _ hab=>hab.mono (fun _ _ _=>rfl) (fun fr b hb=>⟨hb.1,.inl hb.2⟩) (fun _ _=>rfl)))
  ⟨fun k=>by unfold ownAt;simp [OwnRel],fun k b hk=>by unfold ownAt at hk;simp [AV.isOwner]at hk,fun j k b hj=>by unfold ownAt at hj;simp [AV.isOwner]at hj⟩).mono fun e w' hh=> ?_
 obtain⟨v',rfl,hfr,ok',μ',g1,g2,g3,g4,g5,g6⟩:=hh
 have no: ∀b,¬ioMine [] μ b:=fun b hh=>by obtain⟨k,hk,_⟩:=hh;unfold ownAt at hk;simp [AV.isOwner]at hk
 refine⟨v',rfl,⟨hfr.os,hfr.tape,hfr.output,hfr.size,fun k hk hm=>hfr.block k hk (no k)⟩,fun _=>ok' true,μ',fun fr b hb=> ?_,fun _ h=>h,g3.fresh hr,⟨fun k=> ?_,fun k b hk hb=> ?_,g4.inj⟩,fun k b hk hb=> ?_,fun k hk=>by omega⟩
 ·rcases g1 true b hb with h9|⟨h9,_⟩
  ·exact .inl h9
  ·cases h9
 ·cases ho:(ownAt gs' k).isOwner with
  |true=>exact(g4.own k).fresh (hg _ (ownAt_mem ho))
  |false=>revert ho;cases ownAt gs' k<;>intro ho<;>first|trivial|cases ho
 ·obtain⟨h1,h2⟩:=g4.blk k b hk hb
  exact⟨h1,fun h9=>h2 (g2 b h9)⟩
 ·rcases g5 k b hk hb with h9|h9
  ·exact .inl h9
  ·exact absurd h9 (no b)
def AV.tight:AV→AV
 | .arr _ t xs=> .arr t.flat t xs
 |a=>a
theorem AV.tight_owner (a:AV):a.tight.isOwner=a.isOwner:=by cases a<;>rfl
theorem OwnRel.tight {w:World} {μ:Locs} {ok:OK} {i:Nat} {a:AV} (ha: ∀fr t xs,a= .arr fr t xs→t.flat=true∨fr=false) (h:OwnRel w μ ok i a):OwnRel w μ ok i a.tight:=by
 cases a with
 |arr fr t xs=>
  cases hf:t.flat with
  |true=>
   obtain⟨h1,h2,h3,h4⟩:=h
   show OwnRel w μ ok i (.arr t.flat t xs)
   rw[hf]
   refine⟨h1,h2,h3,h4.imp (fun h=>h) fun⟨b,c,E,e1,e2,e3,e4⟩=>⟨b,c,E,e1,e2,e3,fun j hj=> ?_⟩⟩
   obtain⟨cs,k1,k2⟩:=e4 j hj
   exact⟨cs,TRel.flat hf k1,k2⟩
  |false=>
   show OwnRel w μ ok i (.arr t.flat t xs)
   rw[hf]
   rcases ha fr t xs rfl with e|e
   ·rw[hf]at e;cases e
   ·rw[e]at h;exact h
 |_=>exact h
theorem ownAt_tight (gs:List AV) (k:Nat):ownAt (gs.map AV.tight) k=(ownAt gs k).tight:=by
 unfold ownAt
 simp only[List.getD_eq_getElem?_getD,List.getElem?_map]
 cases gs[k]? <;>rfl
theorem ownAt_arr {gs:List AV} {k:Nat} {fr:Bool} {t:Ty} {xs:List t.D} (h:ownAt gs k= .arr fr t xs):AV.arr fr t xs∈gs:=by
 rw[←h];exact ownAt_mem (by rw[h];rfl)
theorem GoodIO.tight {args:List AV} {p:Nat} {gs:List AV} {r:AV} {gs':List AV} (h:GoodIO P f args p gs r gs') (ha: ∀fr t xs,AV.arr fr t xs∈gs'→t.flat=true∨fr=false):GoodIO P f args p gs r (gs'.map AV.tight):=by
 intro w okA vs μ hA hargs hO
 refine(h w okA vs μ hA hargs hO).mono fun e w' hh=> ?_
 obtain⟨v',rfl,hfr,ok',μ',g1,g2,g3,g4,g5,g6⟩:=hh
 refine⟨v',rfl,hfr,ok',μ',g1,g2,g3,⟨fun k=> ?_,fun k b hk hb=> ?_,fun j k b hj hk=> ?_⟩,fun k b hk hb=> ?_,g6⟩
 ·rw[ownAt_tight];exact(g4.own k).tight fun fr t xs e=>ha fr t xs (ownAt_arr e)
 ·rw[ownAt_tight,AV.tight_owner]at hk;exact g4.blk k b hk hb
 ·rw[ownAt_tight,AV.tight_owner]at hj hk;exact g4.inj j k b hj hk
 ·rw[ownAt_tight,AV.tight_owner]at hk;exact g5 k b hk hb
theorem ioMine_tight {gs:List AV} {μ:Locs} {b:Nat}:ioMine (gs.map AV.tight) μ b↔ioMine gs μ b:=by
 unfold ioMine
 simp only[ownAt_tight,AV.tight_owner]
theorem GoodIO.tightIn {args:List AV} {p:Nat} {gs:List AV} {r:AV} {gs':List AV} (h:GoodIO P f args p (gs.map AV.tight) r gs') (ha: ∀fr t xs,AV.arr fr t xs∈gs→t.flat=true∨fr=false):GoodIO P f args p gs r gs':=by
 intro w okA vs μ hA hargs hO
 refine(h w okA vs μ ⟨hA.1,fun g l hg hm=>hA.2 g l hg (ioMine_tight.1 hm)⟩ hargs ⟨fun k=> ?_,fun k b hk hb=> ?_,fun j k b hj hk=> ?_⟩).mono fun e w' hh=> ?_
 ·rw[ownAt_tight];exact(hO.own k).tight fun fr t xs e=>ha fr t xs (ownAt_arr e)
 ·rw[ownAt_tight,AV.tight_owner]at hk;exact hO.blk k b hk hb
 ·rw[ownAt_tight,AV.tight_owner]at hj hk;exact hO.inj j k b hj hk
 ·obtain⟨v',rfl,hfr,ok',μ',g1,g2,g3,g4,g5,g6⟩:=hh
  exact⟨v',rfl,⟨hfr.os,hfr.tape,hfr.output,hfr.size,fun k hk hm=>hfr.block k hk fun h9=>hm (ioMine_tight.1 h9)⟩,ok',μ',g1,g2,g3,g4,fun k b hk hb=>(g5 k b hk hb).imp id ioMine_tight.1,g6⟩
theorem ownAt_ren {gs gs':List AV} (he:renAs false some gs=some gs') (k:Nat):(∃x y,ownAt gs k=x∧ownAt gs' k=y∧renA false some x=some y)∨(ownAt gs k= .one .junk∧ownAt gs' k= .one .junk):=by
 obtain⟨h1,h2⟩:=renAs_get he
 unfold ownAt
 simp only[List.getD_eq_getElem?_getD]
 cases hk:gs[k]? with
 |none=>
  have:gs'[k]? =none:=List.getElem?_eq_none (by have:=List.getElem?_eq_none_iff.1 hk;omega)
  rw[this];exact .inr ⟨rfl,rfl⟩
 |some x=>
  obtain⟨y,e1,e2⟩:=h2 k x hk
  rw[e1];exact .inl ⟨x,y,rfl,rfl,e2⟩
theorem GoodIO.weak {args:List AV} {p:Nat} {gs:List AV} {r:AV} {gs' gs'':List AV} (h:GoodIO P f args p gs r gs') (he:renAs false some gs'=some gs''):GoodIO P f args p gs r gs'':=by
 intro w okA vs μ hA hargs hO
 refine(h w okA vs μ hA hargs hO).mono fun e w' hh=> ?_
 obtain⟨v',rfl,hfr,ok',μ',g1,g2,g3,g4,g5,g6⟩:=hh
 have hR:Ren μ' μ' ok' ok' false some:=⟨fun s k e=>by cases e;rfl,fun fr b hb=>by cases fr;exact hb;exact g2 b hb⟩
 have ho: ∀k,(ownAt gs'' k).isOwner=(ownAt gs' k).isOwner:=fun k=>by
  rcases ownAt_ren he k with⟨x,y,e1,e2,e3⟩|⟨e1,e2⟩
  ·rw[e1,e2];exact renA_owner e3
  ·rw[e1,e2]
 refine⟨v',rfl,hfr,ok',μ',g1,g2,g3,⟨fun k=> ?_,fun k b hk hb=> ?_,fun j k b hj hk=> ?_⟩,fun k b hk hb=> ?_,g6⟩
 ·rcases ownAt_ren he k with⟨x,y,e1,e2,e3⟩|⟨e1,e2⟩
  ·rw[e2];exact renOwn_rel hR rfl (e1▸g4.own k) e3
  ·rw[e2];trivial
 ·rw[ho]at hk;exact g4.blk k b hk hb
 ·rw[ho]at hj hk;exact g4.inj j k b hj hk
 ·rw[ho]at hk;exact g5 k b hk hb
end
end Go.AM
