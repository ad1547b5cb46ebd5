import Derived.Test.YthnonmlhgafalaaGreatZAmFn
set_option linter.unusedVariables false
namespace Go.AM
open Go
theorem GoodIO.nilBox {P:Program} {f:FuncId} {args:List AV} {t:Ty} {fr:Bool} {r:AV} {gs':List AV} (h:GoodIO P f args 1 [.own [.hot 1 none],.arr fr t []] r gs')
 (hargs: ∀(w:World) (μ μ':Locs) (ok:OK) (vs:List Value),μ' 0=μ 0→All2 (AVRel w μ ok) args vs→All2 (AVRel w μ' ok) args vs):GoodIO P f args 1 [.own [.nils]] r gs':=by
 intro w okA vs μ hA hvs hO
 obtain⟨b,c,E,h1,h2,h3⟩:=(hO.own 0:OwnRel w μ (argOK okA) 0 (.own [.nils]))
 obtain⟨v,hc,hv⟩: ∃v,c.toList=[v]∧SVRel w μ (argOK okA) .nils v:=by
  generalize c.toList=l at h3
  cases h3 with
  |cons a t=>cases t;exact⟨_,rfl,a⟩
 have one: ∀(k:Nat),(ownAt [.own [.nils]] k).isOwner=true→k=0:=fun k hk=>by
  cases k with
  |zero=>rfl
  |succ k=>unfold ownAt at hk;simp [AV.isOwner]at hk
 have hmine: ∀b,ioMine [.own [.hot 1 none],.arr fr t []] (fun k=>if k=1 then⟨none,0,0⟩else μ k) b↔ioMine [.own [.nils]] μ b:=fun b=>by
  constructor
  ·rintro⟨k,hk,hb⟩
   match k with
   |0=>exact⟨0,rfl,hb⟩
   |1=>cases hb
   |k+2=>unfold ownAt at hk;simp [AV.isOwner]at hk
  ·rintro⟨k,hk,hb⟩
   obtain rfl:=one k hk
   exact⟨0,rfl,hb⟩
 have hO':OwnsOk w (fun k=>if k=1 then⟨none,0,0⟩else μ k) (argOK okA) [.own [.hot 1 none],.arr fr t []]:=by
  refine⟨fun k=> ?_,fun k b' hk hb=> ?_,fun j k b' hj hk h1' h2'=> ?_⟩
  ·match k with
   |0=>
    refine⟨b,c,E,h1,h2, ?_⟩
    rw[hc]
    refine .cons ?_ .nil
    have hv:v= .slice none 0 0:=hv
    subst hv
    exact(⟨rfl,fun m h=>(by cases h),by show(0:Nat)≤9223372036854775807;omega⟩:SVRel0 w (fun k=>if k=1 then⟨none,0,0⟩else μ k) (argOK okA) (.hot 1 none) (.slice none 0 0))
   |1=>exact⟨rfl,Nat.le_refl _,(by show(0:Nat)≤9223372036854775807;omega),.inl ⟨rfl,rfl,rfl⟩⟩
   |k+2=>unfold ownAt;simp [OwnRel]
  ·match k with
   |0=>exact hO.blk 0 b' rfl hb
   |1=>cases hb
   |k+2=>unfold ownAt at hk;simp [AV.isOwner]at hk
  ·match j,k with
   |0,0=>rfl
   |1,_=>cases h1'
   |_,1=>cases h2'
   |k+2,_=>unfold ownAt at hj;simp [AV.isOwner]at hj
   |_,k+2=>unfold ownAt at hk;simp [AV.isOwner]at hk
 refine(h w okA vs _ ⟨hA.1,fun g l hg hm=>hA.2 g l hg ((hmine g).1 hm)⟩ (hargs w μ _ _ vs rfl hvs) hO').mono fun e w' hh=> ?_
 obtain⟨v',e1,hfr,ok',μ'',g1,g2,g3,g4,g5,g6⟩:=hh
 refine⟨v',e1,⟨hfr.1,hfr.2,hfr.3,hfr.4,fun k hk hm=>hfr.5 k hk fun h=>hm ((hmine k).1 h)⟩,ok',μ'',g1,g2,g3,g4,fun k b hk hb=>(g5 k b hk hb).imp id (hmine b).1,fun k hk=> ?_⟩
 obtain rfl:k=0:=by omega
 exact g6 0 hk
theorem GoodIO.nilObj {P:Program} {f:FuncId} {args:List AV} {cs:List SV} {t:Ty} {fr:Bool} {r:AV} {gs':List AV} (h:GoodIO P f args 1 [.own (cs++[.hot 1 none]),.arr fr t []] r gs')
 (hargs: ∀(w:World) (μ μ':Locs) (ok:OK) (vs:List Value),μ' 0=μ 0→All2 (AVRel w μ ok) args vs→All2 (AVRel w μ' ok) args vs)
 (hcs: ∀(w:World) (μ μ':Locs) (ok:OK) (vs:List Value),All2 (SVRel w μ ok) cs vs→All2 (SVRel w μ' ok) cs vs):GoodIO P f args 1 [.own (cs++[.nils])] r gs':=by
 intro w okA vs μ hA hvs hO
 obtain⟨b,c,E,h1,h2,h3⟩:=(hO.own 0:OwnRel w μ (argOK okA) 0 (.own (cs++[.nils])))
 obtain⟨us,v,hc,hus,hv⟩: ∃us v,c.toList=us++[v]∧All2 (SVRel w μ (argOK okA)) cs us∧SVRel w μ (argOK okA) .nils v:=by
  have key: ∀(cs:List SV) (l:List Value),All2 (SVRel w μ (argOK okA)) (cs++[.nils]) l→ ∃us v,l=us++[v]∧All2 (SVRel w μ (argOK okA)) cs us∧SVRel w μ (argOK okA) .nils v:=by
   intro cs
   induction cs with
   |nil=>
    intro l hl
    cases hl with
    |cons a t=>cases t;exact⟨[],_,rfl,.nil,a⟩
   |cons x cs ih=>
    intro l hl
    cases hl with
    |cons a t=>
     obtain⟨us,v,rfl,g1,g2⟩:=ih _ t
     exact⟨_::us,v,rfl,.cons a g1,g2⟩
  exact key cs _ h3
 have one: ∀(k:Nat),(ownAt [.own (cs++[.nils])] k).isOwner=true→k=0:=fun k hk=>by
  cases k with
  |zero=>rfl
  |succ k=>unfold ownAt at hk;simp [AV.isOwner]at hk
 have hmine: ∀b,ioMine [.own (cs++[.hot 1 none]),.arr fr t []] (fun k=>if k=1 then⟨none,0,0⟩else μ k) b↔ioMine [.own (cs++[.nils])] μ b:=fun b=>by
  constructor
  ·rintro⟨k,hk,hb⟩
   match k with
   |0=>exact⟨0,rfl,hb⟩
   |1=>cases hb
   |k+2=>unfold ownAt at hk;simp [AV.isOwner]at hk
  ·rintro⟨k,hk,hb⟩
   obtain rfl:=one k hk
   exact⟨0,rfl,hb⟩
 have happ: ∀ {R:SV→Value→Prop} {cs:List SV} {us:List Value} {x:SV} {v:Value},All2 R cs us→R x v→All2 R (cs++[x]) (us++[v]):=fun {R cs us x v} h1 h2=>by
  induction h1 with
  |nil=>exact .cons h2 .nil
  |cons a _ ih=>exact .cons a ih
 have hO':OwnsOk w (fun k=>if k=1 then⟨none,0,0⟩else μ k) (argOK okA) [.own (cs++[.hot 1 none]),.arr fr t []]:=by
  refine⟨fun k=> ?_,fun k b' hk hb=> ?_,fun j k b' hj hk h1' h2'=> ?_⟩
  ·match k with
   |0=>
    refine⟨b,c,E,h1,h2, ?_⟩
    rw[hc]
    refine happ (hcs _ _ _ _ _ hus) ?_
    have hv:v= .slice none 0 0:=hv
    subst hv
    exact(⟨rfl,fun m h=>(by cases h),by show(0:Nat)≤9223372036854775807;omega⟩:SVRel0 w (fun k=>if k=1 then⟨none,0,0⟩else μ k) (argOK okA) (.hot 1 none) (.slice none 0 0))
   |1=>exact⟨rfl,Nat.le_refl _,(by show(0:Nat)≤9223372036854775807;omega),.inl ⟨rfl,rfl,rfl⟩⟩
   |k+2=>unfold ownAt;simp [OwnRel]
  ·match k with
   |0=>exact hO.blk 0 b' rfl hb
   |1=>cases hb
   |k+2=>unfold ownAt at hk;simp [AV.isOwner]at hk
  ·match j,k with
   |0,0=>rfl
   |1,_=>cases h1'
   |_,1=>cases h2'
   |k+2,_=>unfold ownAt at hj;simp [AV.isOwner]at hj
   |_,k+2=>unfold ownAt at hk;simp [AV.isOwner]at hk
 refine(h w okA vs _ ⟨hA.1,fun g l hg hm=>hA.2 g l hg ((hmine g).1 hm)⟩ (hargs w μ _ _ vs rfl hvs) hO').mono fun e w' hh=> ?_
 obtain⟨v',e1,hfr,ok',μ'',g1,g2,g3,g4,g5,g6⟩:=hh
 refine⟨v',e1,⟨hfr.1,hfr.2,hfr.3,hfr.4,fun k hk hm=>hfr.5 k hk fun h=>hm ((hmine k).1 h)⟩,ok',μ'',g1,g2,g3,g4,fun k b hk hb=>(g5 k b hk hb).imp id (hmine b).1,fun k hk=> ?_⟩
 obtain rfl:k=0:=by omega
 exact g6 0 hk
end Go.AM
