import Derived.Test.YthnonmlhgafalaaGreatZSeOr
import Derived.Test.YthnonmlhgafalaaGreatZSeOd
import Derived.Test.YthnonmlhgafalaaGreatZAmNil
import Derived.Test.YthnonmlhgafalaaGreatZM20
import Derived.Test.YthnonmlhgafalaaGreatZM18
import Derived.Test.YthnonmlhgafalaaGreatZAmDfr
set_option linter.unusedVariables false
set_option linter.unusedSimpArgs false
set_option maxRecDepth 100000
namespace Go.AM.Seat
open Go Go.AM Go.Proofs
theorem io391n (a:Int) (l:List Int) (top:Int) (hb:cutB a l 40 top []=true):
 GoodIO Tryz.prog N391 [.one (.ptr 0 0),.one (.int .u64 top)] 1 [.own [.int .i64 a,.sl false U none l,.nils]] (.one (.int .i64 (cutR a l 40 top []).2)) [.own [.int .i64 a,.sl false U none l,.hot 1 none],.arr true Subset (cutR a l 40 top []).1]:=by
 refine GoodIO.nilObj (cs:=[.int .i64 a,.sl false U none l]) (t:=Subset) (io391 (g391 39) a l top [] hb) (fun w μ μ' ok vs h0 h=> ?_) (fun w μ μ' ok vs h=> ?_)
 ·cases h with
  |cons h1 t=>
  cases t with
  |cons h2 t=>
  cases t
  refine .cons ?_ (.cons h2 .nil)
  obtain⟨b,hb,hv⟩:=(h1: ∃b,(μ 0).b=some b∧_)
  exact(⟨b,by rw[h0];exact hb,hv⟩: ∃b',(μ' 0).b=some b'∧_=Go.Value.pointer (some ⟨b',0,none⟩))
 ·cases h with
  |cons h1 t=>
  cases t with
  |cons h2 t=>
  cases t
  exact .cons h1 (.cons h2 .nil)
def s391n:Sp:= .io fun x p gs=>match x,p,gs with
 |[.one (.ptr 0 0),.one (.int .u64 top)],1,[.own [.int .i64 a,.sl false (.int .u64) none l,.nils]]=>
  some (cutB a l 40 top [],.one (.int .i64 (cutR a l 40 top []).2),[.own [.int .i64 a,.sl false U none l,.hot 1 none],.arr true Subset (cutR a l 40 top []).1])
 |_,_,_=>none
theorem g391n:GoodS Tryz.prog N391 s391n:=by
 refine GoodS.io (callable_of H391 (bd rfl) (by kernel_rfl)) fun a p gs r gs' hw1 hw2 h=> ?_
 clear hw1 hw2
 unfold s391n at h
 split at h
 ·rename_i top a l
  simp only[Option.some.injEq,Prod.mk.injEq]at h
  obtain⟨hb,rfl,rfl⟩:=h
  exact io391n a l top hb
 ·cases h
def Γ357:Orc:=orcL 44 [(N390,s390),(N391,s391n),(N392,s392)]
theorem Γ357ok:OrcOk Tryz.prog Γ357:=OrcOk.toL 44 (.cons g390 (.cons g391n (.cons g392 (.nil _))))
theorem r357 (a:Int) (l:List Int):runG Γ357 noL 2 [] F357 [.one (.int .i64 a),.one (.sl false U none l)] [.sl true Subset,.id]=
 bif (belowR a l 1).2 != 0 then some (rls2 [] (belowR a l 1).2)else bif !decide (((belowR a l 1).1.length :Int)>0)then some (rls2 [(1,0)] 0)else
 bif cutB a l 40 1 []then bif (cutR a l 40 1 []).2 != 0 then some (rls2 [] (cutR a l 40 1 []).2)else
  bif (Nat.beq N393 N393||Nat.beq N393 N396)&&decide ((cutR a l 40 1 []).1.length ≤1000000)then some (rls2 (sortQ (cutR a l 40 1 []).1) 0)else none else none:=by kernel_rfl
theorem cut_fit {a:Int} {l:List Int} (h:lokB a l=true) (hu: ∀x∈l,IntKind.u64.has x) (hne:l≠[]):cutB a l 40 1 []=true∧(cutR a l 40 1 []).1.length ≤2048:=by
 have s:=setN_of h hu
 have ho:okN a.toNat 1=true:=by rw[okN_one,decide_eq_true s.h1,decide_eq_true s.h2];rfl
 cases hl:l with
 |nil=>exact absurd hl hne
 |cons y r=>
  rw[←hl]
  obtain⟨c0,c,c1,c2⟩:=cut_run s h 40 1 ho (by have:=s.h2;omega) ⟨y.toNat,by rw[hl];simp,abv_one leafN_ne⟩
  have c2:cutR a l 40 1 []=_:=c2 []
  have c0:cutOk a l 40 1=true:=c0
  refine⟨?_, ?_⟩
  ·unfold cutB
   rw[c0];rfl
  ·rw[c2,List.nil_append,List.length_map]
   have h1:=cut_len s.lt c1
   have h2:(l.map Int.toNat).countP (fun i=>abv 1 (leafN a.toNat i))≤(l.map Int.toNat).length:=List.countP_le_length
   have:=s.len
   omega
def s357:Sp:= .fn [.v I,.v (.sl U)] fun x=>(true,rls2 (diffI x.1 x.2).1 (diffI x.1 x.2).2)
theorem g357:GoodS Tryz.prog N357 s357:=by
 refine goodG Γ357ok H357 rfl (by kernel_rfl) noL 2 [] (noLoops (by kernel_rfl)) [.v I,.v (.sl U)] (by decide) [.sl true Subset,.id] _ (fun x r hw e=> ?_) (fun x hx=>by cases hx;decide)
 obtain⟨a,l⟩:=x
 cases e
 refine(r357 a l).trans ?_
 show _=some (rls2 (diffI a l).1 (diffI a l).2)
 unfold diffI
 cases h1:(belowR a l 1).2 != 0 with
 |true=>rfl
 |false=>
  have h2:lokB a l=true:=by
   unfold belowR at h1
   cases hb:belowB a l 1 with
   |true=>rw[hb]at h1;cases h1
   |false=>
    unfold belowB at hb
    cases h3:(leavesI a 1).2 != 0 with
    |true=>rw[h3]at hb;cases hb
    |false=>rw[h3]at hb;exact lchk_ok hb
  cases h3: !decide (((belowR a l 1).1.length :Int)>0)with
  |true=>rfl
  |false=>
   have hu: ∀x∈l,IntKind.u64.has x:=hw.2.2
   have hne:l≠[]:=by
    intro e
    have hz:(belowR a l 1).1=[]:=by
     rw[e];unfold belowR belowL
     cases belowB a [] 1<;>rfl
    rw[hz]at h3
    exact absurd h3 (by decide)
   obtain⟨f1,f2⟩:=cut_fit h2 hu hne
   rw[f1]
   cases h4:(cutR a l 40 1 []).2 != 0 with
   |true=>rfl
   |false=>
    simp only[cond_true,cond_false]
    rw[show(Nat.beq N393 N393||Nat.beq N393 N396)=true from rfl,decide_eq_true (show(cutR a l 40 1 []).1.length ≤1000000 by omega)]
    rfl
theorem cellsQ_at: ∀(l:List (Int×Int)) (j:Nat) (h:j<l.length) (q:Nat),q<2→(cellsQ l)[j*2+q]? =some (encQ l[j])[q]! :=by
 intro l
 induction l with
 |nil=>intro j h;simp at h
 |cons x l ih=>
  intro j h q hq
  have e:cellsQ (x::l)= .int .u64 x.1:: .int .u64 x.2::cellsQ l:=rfl
  rw[e]
  cases j with
  |zero=>
   rcases Nat.lt_or_ge q 1 with h1|h1
   ·obtain rfl:q=0:=by omega
    rfl
   ·obtain rfl:q=1:=by omega
    rfl
  |succ j=>
   rw[show(j+1)*2+q=(j*2+q)+1+1 by omega,List.getElem?_cons_succ,List.getElem?_cons_succ]
   exact ih j (by simpa using h) q hq
theorem io438 (l:List Subset.D) (hl:l.length≤1000000):GoodIO Tryz.prog N438 [.one .nils,.one (.fn N420 [.ref 0 0])] 1 [.own [.sl false Subset none l]] (.one (.hot 1 none)) [.own [.sl false Subset none l],.arr true Subset l]:=by
 intro w okA vs μ hA hargs hO
 cases hargs with
 | @cons x v xs vs hx hxs=>
 cases hxs with
 | @cons x2 v2 xs2 vs2 hx2 hxs2=>
 cases hxs2
 have e1:v= .slice none 0 0:=hx
 subst e1
 obtain⟨cs2,rfl,hcs2⟩:=(hx2:SVRel w μ (argOK okA) (.fn N420 [.ref 0 0]) v2)
 have hown0:OwnRel w μ (argOK okA) 0 (.own [.sl false Subset none l]):=hO.own 0
 obtain⟨b0,c0,E0,hb0,hblk0,hc0⟩:=hown0
 obtain⟨p,rfl,hp⟩: ∃p,cs2=[p]∧p=Go.Value.pointer (some ⟨b0,0,none⟩):=by
  cases hcs2 with
  | @cons y q ys qs h1 t=>
  cases t
  obtain⟨b,hb,hv⟩:=(h1: ∃b,(μ 0).b=some b∧q=Go.Value.pointer (some ⟨b,0,none⟩))
  rw[hb0]at hb;cases hb
  exact⟨q,rfl,hv⟩
 subst hp
 obtain⟨sv,hsv,hrel⟩: ∃sv,c0.toList=[sv]∧SVRel w μ (argOK okA) (.sl false Subset none l) sv:=by
  generalize c0.toList=cl at hc0
  cases hc0 with
  |cons a t=>cases t;exact⟨_,rfl,a⟩
 have hcell:w.cell? ⟨b0,0,none⟩=some sv:=by
  show(match w.heap[b0]? with|some (.cells c _ _)=>if(none:Option Nat).isSome then none else c[0]? |_=>none)=_
  rw[hblk0]
  show c0[0]? =some sv
  rw[←Array.getElem?_toList,hsv];rfl
 have hrel0:SVRel0 w μ (argOK okA) (.sl false Subset none l) sv:=hrel
 obtain⟨⟨A,c,e2,hc1,hc2,hc3⟩,_⟩:=(hrel:TRel w (argOK okA false) (.sl Subset) l [sv]∧nlRel none sv)
 have e2:sv= .slice A l.length c:=by simpa using e2
 have hS:SubsAt w.heap.size w sv l:=by
  by_cases hle:l=[]
  ·exact .inl ⟨A,c,by rw[e2,hle];rfl,hle⟩
  ·rcases hc3 with⟨_,h,_⟩|⟨b,o,⟨sp,e3,h3⟩,h4,h5⟩
   ·exact absurd h hle
   ·have h3:=h3 hle
    subst h3
    refine .inr ⟨b,o,c,by rw[e2,e3],hA.1.lt b (h4 hle).2,fun j hj=> ?_⟩
    obtain⟨cs,t1,t2⟩:=h5 j hj
    obtain⟨u,v,rfl,⟨rfl,_⟩,⟨rfl,_⟩⟩:=(t1: ∃u v,cs=u++v∧_∧_)
    have es:(Ty.pair (.int IntKind.u64) (.int IntKind.u64)).size=2:=rfl
    have q0:=t2 0 (by simp)
    have q1:=t2 1 (by simp)
    rw[es]at q0 q1
    exact⟨q0,q1⟩
 have hU: ∀x∈l,IntKind.u64.has x.1∧IntKind.u64.has x.2:=fun x hx=>by
  obtain⟨j,hj,rfl⟩:=List.getElem_of_mem hx
  rcases hc3 with⟨_,h,_⟩|⟨b,o,_,h4,h5⟩
  ·rw[h]at hj;simp at hj
  ·obtain⟨cs,t1,t2⟩:=h5 j hj
   obtain⟨u,v,rfl,⟨_,a⟩,⟨_,b⟩⟩:=(t1: ∃u v,cs=u++v∧_∧_)
   exact⟨a,b⟩
 have hcon:=callsIn_wide.1 (app_in Fence.wide 4 trivial trivial rfl (Nat.le_refl 4) b0 sv l hl w hcell hS)
 refine hcon.mono fun e W' hh=> ?_
 obtain⟨v,rfl,hrow,hB⟩:=hh
 have hblkW: ∀k,k<w.heap.size→W'.heap[k]? =w.heap[k]? :=hB.block
 have hb0l:b0<w.heap.size:=(hO.blk 0 b0 rfl hb0).1
 have hres: ∀fr b,argOK okA fr b→resOK w W' okA fr b:=fun fr b h=> .inr h
 have hT: ∀b,argOK okA true b→argOK okA false b:=fun b h=>absurd h.1 (by simp)
 have hlt: ∀fr b,argOK okA fr b→b<w.heap.size:=fun fr b h=>hA.1.lt b h.2
 obtain⟨L1,hL1,hL2,hL3,hL4⟩: ∃L1:Loc,v=slv L1 none∧OwnRel W' (fun k=>if k=1 then L1 else μ k) (argOK okA) 1 (.arr true Subset l)∧(∀b,L1.b=some b→w.heap.size≤b∧b<W'.heap.size)∧L1.len≤9223372036854775807:=by
  obtain⟨hcl,⟨rfl,h0⟩|⟨g,cap,cur,rfl,hg,hgb,hn,hcap,hcs,htk⟩⟩:=hrow
  ·have hle:l=[]:=List.length_eq_zero_iff.1 h0
   refine⟨⟨none,0,0⟩,rfl,⟨by rw[hle];rfl,Nat.le_refl _,by show(0:Nat)≤9223372036854775807;omega,.inl ⟨rfl,hle,rfl⟩⟩,(fun b hb=>nomatch hb),by show(0:Nat)≤9223372036854775807;omega⟩
  ·have hmx:cap≤9223372036854775807:=hcap
   refine⟨⟨some g,l.length,cap⟩,rfl,⟨rfl,hn,hmx,.inr ⟨g,cur,_,rfl,hgb,by show cap*2≤_;omega,fun j hj=> ?_⟩⟩,fun b hb=> ?_,by show l.length≤9223372036854775807;omega⟩
   ·refine⟨encQ l[j],⟨[.int .u64 l[j].1],[.int .u64 l[j].2],rfl,⟨rfl,(hU _ (List.getElem_mem hj)).1⟩,⟨rfl,(hU _ (List.getElem_mem hj)).2⟩⟩,fun q hq=> ?_⟩
    have hq:q<2:=hq
    have h9:=cellsQ_at l j hj q hq
    rw[←htk,List.getElem?_take_of_lt (by omega),Array.getElem?_toList]at h9
    show cur[j*2+q]? =_
    rw[h9,getElem!_pos _ q (show q<(encQ l[j]).length from hq)]
   ·cases hb
    exact⟨hg,(Array.getElem?_eq_some_iff.1 hgb).1⟩
 refine⟨v,rfl,⟨hB.os,hB.tape,hB.output,hB.size,fun k hk _=>hblkW k hk⟩,argOK okA,fun k=>if k=1 then L1 else μ k,hres,hT, ?_,⟨fun k=> ?_,fun k b hk hb=> ?_,fun j k b hj hk h1 h2=> ?_⟩,fun k b hk hb=> ?_,fun k hk=> ?_⟩
 ·exact(⟨hL1,fun m h=>(by cases h),hL4⟩:SVRel0 W' (fun k=>if k=1 then L1 else μ k) (argOK okA) (.hot 1 none) v)
 ·match k with
  |0=>
   refine⟨b0,c0,E0,hb0,(hblkW b0 hb0l).trans hblk0, ?_⟩
   rw[hsv]
   refine .cons ?_ .nil
   exact(⟨TRel.mono (fun b hb=>hblkW b (hlt false b hb)) (fun b hb=>hb) hrel0.1,hrel0.2⟩:SVRel0 W' (fun k=>if k=1 then L1 else μ k) (argOK okA) (.sl false Subset none l) sv)
  |1=>exact hL2
  |k+2=>unfold ownAt;simp [OwnRel]
 ·match k with
  |0=>
   obtain⟨h1,h2⟩:=hO.blk 0 b rfl hb
   exact⟨Nat.lt_of_lt_of_le h1 hB.size,h2⟩
  |1=>
   obtain⟨h1,h2⟩:=hL3 b hb
   exact⟨h2,fun h=>by have:=hlt false b h;omega⟩
  |k+2=>unfold ownAt at hk;simp [AV.isOwner]at hk
 ·match j,k with
  |0,0=>rfl
  |1,1=>rfl
  |0,1=>
   have a:=(hO.blk 0 b rfl h1).1
   have c:=(hL3 b h2).1
   omega
  |1,0=>
   have a:=(hO.blk 0 b rfl h2).1
   have c:=(hL3 b h1).1
   omega
  |k+2,_=>unfold ownAt at hj;simp [AV.isOwner]at hj
  |_,k+2=>unfold ownAt at hk;simp [AV.isOwner]at hk
 ·match k with
  |0=>exact .inr ⟨0,rfl,hb⟩
  |1=>exact .inl (hL3 b hb).1
  |k+2=>unfold ownAt at hk;simp [AV.isOwner]at hk
 ·obtain rfl:k=0:=by omega
  rfl
def s438:Sp:= .io fun a p gs=>match a,p,gs with
 |[.one .nils,.one (.fn f [.ref 0 0])],1,[.own [.sl false (.pair (.int .u64) (.int .u64)) none l]]=>some (Nat.beq f N420&&decide (l.length≤1000000),.one (.hot 1 none),[.own [.sl false Subset none l],.arr true Subset l])
 |_,_,_=>none
theorem g438:GoodS Tryz.prog N438 s438:=by
 refine GoodS.io (callable_of H438 (bd rfl) (by kernel_rfl)) fun a p gs r gs' hw1 hw2 h=> ?_
 clear hw1 hw2
 unfold s438 at h
 split at h
 ·rename_i f l
  simp only[Option.some.injEq,Prod.mk.injEq,Bool.and_eq_true,decide_eq_true_eq]at h
  obtain⟨⟨hf,hl⟩,rfl,rfl⟩:=h
  obtain rfl:=Nat.eq_of_beq_eq_true hf
  exact io438 l hl
 ·cases h
def s419:Sp:= .io fun a p gs=>match a,p,gs with
 |[.one (.fn f [.ref 0 0])],1,[.own [.sl false (.pair (.int .u64) (.int .u64)) none l]]=>some (Nat.beq f N420&&decide (l.length≤1000000),.one (.hot 1 none),[.own [.sl false Subset none l],.arr true Subset l])
 |_,_,_=>none
theorem r419 (l:List Subset.D):runIO (orcL 6 [(N438,s438)]) noL2 2 [] F419 [.one (.fn N420 [.ref 5 0])] [.own [.sl false Subset none l]] 1 []=
 bif Nat.beq N420 N420&&decide (l.length≤1000000)then some (.one (.hot 1 none),[.own [.sl false Subset none l],.arr true Subset l])else none:=by kernel_rfl
theorem g419:GoodS Tryz.prog N419 s419:=by
 refine GoodS.io (callable_of H419 (bd rfl) (by kernel_rfl)) fun a p gs r gs' hw1 hw2 h=> ?_
 clear hw1 hw2
 unfold s419 at h
 split at h
 ·rename_i f l
  simp only[Option.some.injEq,Prod.mk.injEq]at h
  obtain⟨hg,rfl,rfl⟩:=h
  have hrun:=r419 l
  have hf:Nat.beq f N420=true:=(Bool.and_eq_true _ _▸hg).1
  obtain rfl:=Nat.eq_of_beq_eq_true hf
  rw[hg]at hrun
  exact goodIO1 (OrcOk.toL 6 (.cons g438 (.nil _))) H419 rfl noL2 2 [] (noLoops2 (by kernel_rfl)) [.one (.fn N420 [.ref 0 0])] [.own [.sl false Subset none l]] 1
   (ys:=[.one (.fn N420 [.ref 5 0])]) (hs:=[.own [.sl false Subset none l]]) rfl rfl rfl (Nat.le_refl 1) (by show 1≤_;decide) (Nat.le_succ 1) [] hrun (fun x hx=>by cases hx;decide)
 ·cases h
def s394:Sp:= .io fun a p gs=>match a,p,gs with
 |[.one (.fn f [.ref 0 0]),.one (.fn g [])],1,[.own [.sl false (.pair (.int .u64) (.int .u64)) none l]]=>some ((Nat.beq f N420&&Nat.beq g N396)&&decide (l.length≤1000000),.one (.hot 1 none),[.own [.sl false Subset none l],.arr true Subset (sortQ l)])
 |_,_,_=>none
theorem r394 (l:List Subset.D):runIO (orcL 13 [(N419,s419),(N392,s392)]) noL2 2 [] F394 [.one (.fn N420 [.ref 12 0]),.one (.fn N396 [])] [.own [.sl false Subset none l]] 1 []=
 bif Nat.beq N420 N420&&decide (l.length≤1000000)then bif (Nat.beq N396 N393||Nat.beq N396 N396)&&decide (l.length≤1000000)then some (.one (.hot 1 none),[.own [.sl false Subset none l],.arr true Subset (sortQ l)])else none else none:=by kernel_rfl
theorem g394:GoodS Tryz.prog N394 s394:=by
 refine GoodS.io (callable_of H394 (bd rfl) (by kernel_rfl)) fun a p gs r gs' hw1 hw2 h=> ?_
 clear hw1 hw2
 unfold s394 at h
 split at h
 ·rename_i f g l
  simp only[Option.some.injEq,Prod.mk.injEq,Bool.and_eq_true,decide_eq_true_eq]at h
  obtain⟨⟨⟨hf,hg⟩,hl⟩,rfl,rfl⟩:=h
  obtain rfl:=Nat.eq_of_beq_eq_true hf
  obtain rfl:=Nat.eq_of_beq_eq_true hg
  have hrun:=r394 l
  rw[decide_eq_true hl,show(Nat.beq N420 N420&&true)=true from rfl,show((Nat.beq N396 N393||Nat.beq N396 N396)&&true)=true from rfl]at hrun
  exact goodIO1 (OrcOk.toL 13 (.cons g419 (.cons g392 (.nil _)))) H394 rfl noL2 2 [] (noLoops2 (by kernel_rfl)) [.one (.fn N420 [.ref 0 0]),.one (.fn N396 [])] [.own [.sl false Subset none l]] 1
   (ys:=[.one (.fn N420 [.ref 12 0]),.one (.fn N396 [])]) (hs:=[.own [.sl false Subset none l]]) rfl rfl rfl (Nat.le_refl 1) (by show 2≤_;decide) (Nat.le_succ 1) [] hrun (fun x hx=>by cases hx;decide)
 ·cases h
def s395:Sp:= .io fun a p gs=>match a,p,gs with
 |[.one (.sl false (.pair (.int .u64) (.int .u64)) none l)],0,[]=>some (true,.one (.fn N420 [.ref 0 0]),[.own [.sl false Subset none l]])
 |_,_,_=>none
theorem r395 (l:List Subset.D):runIO (orc []) noL2 1 [] F395 [.one (.sl false Subset none l)] [] 0 []=some (.one (.fn N420 [.ref 0 0]),[.own [.sl false Subset none l]]):=by kernel_rfl
theorem g395:GoodS Tryz.prog N395 s395:=by
 refine GoodS.io (callable_of H395 (bd rfl) (by kernel_rfl)) fun a p gs r gs' hw1 hw2 h=> ?_
 clear hw1 hw2
 unfold s395 at h
 split at h
 ·rename_i l
  simp only[Option.some.injEq,Prod.mk.injEq,true_and]at h
  obtain⟨rfl,rfl⟩:=h
  exact goodIO0 (.nil _) H395 rfl noL2 1 [] (noLoops2 (by kernel_rfl)) [.one (.sl false Subset none l)] rfl (by show 1≤_;decide) [] (r395 l)
 ·cases h
def Γ359:Orc:=orcL 7 [(N395,s395),(N394,s394)]
theorem r359 (l:List Subset.D):runG Γ359 noL 2 [] F359 [.one (.sl false Subset none l)] [.sl true Subset]=
 bif (Nat.beq N420 N420&&Nat.beq N396 N396)&&decide (l.length≤1000000)then some (.one (.sl true Subset none (sortQ l)))else none:=by kernel_rfl
def s359:Sp:= .fn [.v (.sl Subset)] fun l=>(decide (l.length≤1000000),.one (.sl true Subset none (sortQ l)))
theorem g359:GoodS Tryz.prog N359 s359:=by
 refine goodG (OrcOk.toL 7 (.cons g395 (.cons g394 (.nil _)))) H359 rfl (by kernel_rfl) noL 2 [] (noLoops (by kernel_rfl)) [.v (.sl Subset)] (by decide) [.sl true Subset] _ (fun l r hw h=> ?_) (fun x hx=>by cases hx;decide)
 simp only[Prod.mk.injEq]at h
 obtain⟨hl,rfl⟩:=h
 refine(r359 l).trans ?_
 rw[hl];rfl
def Γ322:Orc:=orc [(N348,s348),(N356,s356),(N357,s357),(N358,s358),(N359,s359)]
abbrev live322:List (Nat×Dir):=[(0,.keep),(6,.arr Subset),(7,.keep),(40,.keep),(41,.keep),(42,.keep)]
def vs322 (h:Int) (out:List Subset.D) (e:Int) (c:List Subset.D) (n i:Int):List AV:=[.one (.int .i64 h),.arr true Subset out,.one (.int .i64 e),.one (.sl true Subset none c),.one (.int .i64 n),.one (.int .i64 i)]
noncomputable abbrev lo322 (Λ:Lam AV) (K:AE→List AV→Option AV) (fuel:Nat) (vs:List AV):Option AV:=loopN (aexec tb Γ322 Λ ⟨61,0,[(0,live322)]⟩ (loop1 F322).2 0) 61 0 live322 K fuel vs
theorem step322 (h:Int) (out:List Subset.D) (e:Int) (c:List Subset.D) (n i:Int) (Λ:Lam AV) (K:AE→List AV→Option AV) (fuel:Nat):lo322 Λ K (fuel+1) (vs322 h out e c n i)=
 bif decide (i<n)then bif inB i c.length then bif (splitI h (sAt c i)).2 != 0 then K .ret (vs322 h [] (splitI h (sAt c i)).2 c n i)else
  bif decide ((out.length+(splitI h (sAt c i)).1.length)*16≤140737488355328)then lo322 Λ K fuel (vs322 h (out++(splitI h (sAt c i)).1) e c n (IntKind.i64.wrap (i+1)))else none else none
 else K (.exit 0) (vs322 h out e c n i):=by kernel_rfl
def partsJ (a:Int):List Subset.D→Nat→Nat
 |[],j=>j
 |s::r,j=>bif (splitI a s).2 != 0 then j else partsJ a r (j+1)
def partsX (a:Int) (c:List Subset.D):Bool:=c.any fun s=>(splitI a s).2 != 0
def partsF (a:Int) (c:List Subset.D):List Subset.D:=c.flatMap fun s=>(splitI a s).1
theorem partsI_eq (a:Int): ∀(c out:List Subset.D),partsI a c out=bif partsX a c then none else some (out++partsF a c):=by
 intro c
 induction c with
 |nil=>intro out;rw[partsI];show _=some (out++[]);rw[List.append_nil]
 |cons s r ih=>
  intro out
  rw[partsI]
  unfold partsX partsF at*
  rw[List.any_cons,List.flatMap_cons]
  cases (splitI a s).2 != 0 with
  |true=>rfl
  |false=>
   simp only[cond_false,Bool.false_or]
   rw[ih,List.append_assoc]
theorem split_len (a:Int) (s:Subset.D):(splitI a s).1.length ≤2:=by
 unfold splitI
 cases (useI a s).2 != 0 with
 |true=>exact Nat.zero_le _
 |false=>cases (bif (useI a s).1 then true else s.2==0)<;>simp
def Λ322:Lam AV:=fun _ vs K=>
 match vs with
 |[.one (.int .i64 h),.arr true (.pair (.int .u64) (.int .u64)) [],.one (.int .i64 e),.one (.sl true (.pair (.int .u64) (.int .u64)) none c),.one (.int .i64 n),.one (.int .i64 0)]=>
  bif decide (n=c.length)&&decide (c.length≤1000000)then
   bif partsX h c then K .ret (vs322 h [] (partsE h c) c n (partsJ h c 0))else K (.exit 0) (vs322 h (partsF h c) e c n n)
  else none
 |_=>none
theorem go322 {ρ:Type} {h:Int} {c:List Subset.D} (hl:c.length≤1000000) {F:Nat→List Subset.D→Int→Option ρ} {R:Int→Int→Option ρ} {X:List Subset.D→Int→Option ρ} {out:ρ}
 (step: ∀fuel o i,F (fuel+1) o i=bif decide (i<(c.length:Int))then bif inB i c.length then bif (splitI h (sAt c i)).2 != 0 then R (splitI h (sAt c i)).2 i else
  bif decide ((o.length+(splitI h (sAt c i)).1.length)*16≤140737488355328)then F fuel (o++(splitI h (sAt c i)).1) (IntKind.i64.wrap (i+1))else none else none else X o i):
 ∀(m j:Nat) (o:List Subset.D),j+m=c.length→o.length≤2*j→(bif partsX h (c.drop j)then R (partsE h (c.drop j)) (partsJ h (c.drop j) j)else X (o++partsF h (c.drop j)) c.length)=some out→ ∃fuel,F fuel o (j:Int)=some out:=by
 intro m
 induction m with
 |zero=>
  intro j o hj ho h'
  obtain rfl:j=c.length:=by omega
  rw[List.drop_length]at h'
  refine⟨1, ?_⟩
  rw[step,nlt_dec]
  have h':X (o++[]) c.length=some out:=h'
  rw[List.append_nil]at h'
  exact h'
 |succ m ih=>
  intro j o hj ho h'
  have hlt:j<c.length:=by omega
  rw[sAt_drop hlt]at h'
  have hs2:=split_len h (sAt c (j:Int))
  unfold partsX partsF at h'
  rw[List.any_cons,List.flatMap_cons,partsE,partsJ]at h'
  cases hc:(splitI h (sAt c (j:Int))).2 != 0 with
  |true=>
   rw[hc]at h'
   refine⟨1, ?_⟩
   rw[step,lt_dec hlt,inB_lt hlt,hc]
   exact h'
  |false=>
   rw[hc]at h'
   simp only[Bool.false_or,cond_false]at h'
   obtain⟨fuel,hf⟩:=ih (j+1) (o++(splitI h (sAt c (j:Int))).1) (by omega) (by rw[List.length_append];omega) (by
    unfold partsX partsF
    rw[List.append_assoc];exact h')
   refine⟨fuel+1, ?_⟩
   rw[step,lt_dec hlt,inB_lt hlt,hc,decide_eq_true (show(o.length+(splitI h (sAt c (j:Int))).1.length)*16≤140737488355328 by omega),wrap64 (n:=(j:Int)+1) (by omega) (by omega)]
   exact hf
theorem loop322:LoopP tb Γ322 Λ322 ⟨61,0,[(0,live322)]⟩ (loop1 F322):=by
 intro vs K out h
 have hcur:(loop1 F322).1=0:=by kernel_rfl
 rw[hcur]at h⊢
 unfold Λ322 at h
 split at h
 ·rename_i a e c n
  cases hc:decide (n=c.length)&&decide (c.length≤1000000)with
  |false=>rw[hc]at h;cases h
  |true=>
   rw[hc]at h
   simp only[Bool.and_eq_true,decide_eq_true_eq]at hc
   obtain⟨rfl,hl⟩:=hc
   exact go322 (h:=a) hl (F:=fun fuel o i=>lo322 Λ322 K fuel (vs322 a o e c c.length i)) (R:=fun e' i=>K .ret (vs322 a [] e' c c.length i)) (X:=fun o i=>K (.exit 0) (vs322 a o e c c.length i))
    (fun fuel o i=>step322 a o e c c.length i Λ322 K fuel) c.length 0 [] (by omega) (by simp) h
 ·cases h
theorem r322 (h k:Int) (l:List Int):run Γ322 Λ322 [(0,live322)] F322 [.one (.int .i64 h),.one (.int .i64 k),.one (.sl false U none l)] [.sl true Subset,.id]=
 bif schE h k != 0 then some (rls2 [] (schE h k))else bif k==1 then bif decide ((hangI h l).1.length ≤1000000)then some (rls2 (wholeS (hangI h l).1) (hangI h l).2)else none else
 bif (bif (diffI h l).2 != 0 then true else k==2)then some (rls2 (diffI h l).1 (diffI h l).2)else
 bif decide (((diffI h l).1.length :Int)=(diffI h l).1.length)&&decide ((diffI h l).1.length ≤1000000)then bif partsX h (diffI h l).1 then some (rls2 [] (partsE h (diffI h l).1))else
  bif decide ((partsF h (diffI h l).1).length≤1000000)then some (rls2 (sortQ (partsF h (diffI h l).1)) 0)else none else none:=by kernel_rfl
theorem below_ok {a n:Int} {l:List Int} (h1:((belowR a l n).2 != 0)=false):lokB a l=true:=by
 unfold belowR at h1
 cases hb:belowB a l n with
 |true=>rw[hb]at h1;cases h1
 |false=>
  unfold belowB at hb
  cases h3:(leavesI a n).2 != 0 with
  |true=>rw[h3]at hb;cases hb
  |false=>rw[h3]at hb;exact lchk_ok hb
theorem diff_len {a:Int} {l:List Int} (hu: ∀x∈l,IntKind.u64.has x):(diffI a l).1.length ≤2048:=by
 cases h1:(belowR a l 1).2 != 0 with
 |true=>unfold diffI;rw[h1];exact Nat.zero_le _
 |false=>
  have h2:=below_ok h1
  obtain⟨c,c1,c2⟩:=diff_law (setN_of h2 hu) h2
  rw[c1,List.length_map];exact c2.len
theorem partsF_len (a:Int): ∀c:List Subset.D,(partsF a c).length≤2*c.length:=by
 intro c
 induction c with
 |nil=>exact Nat.le_refl 0
 |cons s r ih=>
  have:=split_len a s
  unfold partsF at*
  rw[List.flatMap_cons,List.length_append,List.length_cons]
  omega
def s322:Sp:= .fn [.v I,.v I,.v (.sl U)] fun x=>(true,rls2 (coverI x.1 x.2.1 x.2.2).1 (coverI x.1 x.2.1 x.2.2).2)
theorem g322:GoodS Tryz.prog N322 s322:=by
 refine good (OrcOk.cons g348 (.cons g356 (.cons g357 (.cons g358 (.cons g359 (.nil _)))))) H322 rfl (by kernel_rfl) Λ322 [(0,live322)] (oneLoop (p0:=loop1 F322) (by kernel_rfl) loop322) [.v I,.v I,.v (.sl U)] (by decide) [.sl true Subset,.id] _ fun x r hw e=> ?_
 obtain⟨h,k,l⟩:=x
 cases e
 refine(r322 h k l).trans ?_
 show _=some (rls2 (coverI h k l).1 (coverI h k l).2)
 have hu: ∀x∈l,IntKind.u64.has x:=hw.2.2.2
 have b1:=hang_len h l
 have b2:=diff_len (a:=h) hu
 have b3:=partsF_len h (diffI h l).1
 unfold coverI
 rw[partsI_eq,decide_eq_true (show(hangI h l).1.length ≤1000000 by omega),decide_eq_true (show(diffI h l).1.length ≤1000000 by omega),decide_eq_true (show(partsF h (diffI h l).1).length≤1000000 by omega)]
 simp only[decide_true,Bool.and_self,cond_true,List.nil_append]
 cases schE h k != 0 with
 |true=>rfl
 |false=>
  cases k==1 with
  |true=>rfl
  |false=>
   cases (bif (diffI h l).2 != 0 then true else k==2)with
   |true=>rfl
   |false=>cases partsX h (diffI h l).1<;>rfl
def Γ859:Orc:=orc [(N346,s346)]
def opB (l:List Term.D) (v:Value.D) (s:Bool):Bool:=bif (walkV l v []).2.2 ==0 then v.1==s else false
theorem r859 (l:List Term.D) (v:Value.D) (s:Bool):run Γ859 noL [] F859 (encA [.v (.sl Term),.v Value,.v .bool] (l,v,s)) []=bif small24 l.length then some (.one (.bool (opB l v s)))else none:=by kernel_rfl
def s859:Sp:= .fn [.v (.sl Term),.v Value,.v .bool] fun x=>(small24 x.1.length,.one (.bool (opB x.1 x.2.1 x.2.2)))
theorem g859:GoodS Tryz.prog N859 s859:=by
 refine good (.cons g346 (.nil _)) H859 rfl (by kernel_rfl) noL [] (noLoops (by kernel_rfl)) [.v (.sl Term),.v Value,.v .bool] (by decide) [] _ fun x r hw h=> ?_
 obtain⟨l,v,s⟩:=x
 simp only[Prod.mk.injEq]at h
 obtain⟨hl,rfl⟩:=h
 refine(r859 l v s).trans ?_
 rw[hl];rfl
def oddS (h k:Int) (s:Subset.D):Bool:=bif (mayI h k s).2 != 0 then true else !(mayI h k s).1
theorem r860 (h k:Int) (s:Subset.D):run (orc [(N318,s318)]) noL [] F860 [encV Subset s,.one (.rp false I h 0),.one (.rp false I k 0)] []=some (.one (.bool (oddS h k s))):=by kernel_rfl
def s860:Sp:= .fn [.v Subset,.raw,.raw] fun x=>match x.2.1,x.2.2 with
 | .one (.rp false (.int .i64) h 0),.one (.rp false (.int .i64) k 0)=>(true,.one (.bool (oddS h k x.1)))
 |_,_=>(false,AV.junk)
theorem g860:GoodS Tryz.prog N860 s860:=by
 refine good (.cons g318 (.nil _)) H860 rfl (by kernel_rfl) noL [] (noLoops (by kernel_rfl)) [.v Subset,.raw,.raw] (by decide) [] _ fun x r hw h=> ?_
 obtain⟨s,c,d⟩:=x
 simp only at h
 split at h
 ·cases h
  exact r860 _ _ s
 ·cases h
@[reducible] def FlatV:Ty:= .pair .bool (.pair .bool (.pair U (.pair U (.pair U (.pair U (.pair U (.pair U I)))))))
def shutV (l:List Term.D) (m:FlatV.D) (v:Value.D):Bool:= !opB l v m.1
def s862:Sp:= .fn [.v Value,.raw,.raw] fun x=>match x.2.1,x.2.2 with
 | .one (.rp false (.sl (.pair (.int .i64) (.pair (.int .i64) (.int .i64)))) l 0),.one (.rp false (.pair .bool (.pair .bool (.pair (.int .u64) (.pair (.int .u64) (.pair (.int .u64) (.pair (.int .u64) (.pair (.int .u64) (.pair (.int .u64) (.int .i64))))))))) m 0)=>(small24 l.length,.one (.bool (shutV l m x.1)))
 |_,_=>(false,AV.junk)
theorem r862 (l:List Term.D) (m:FlatV.D) (v:Value.D):run (orc [(N859,s859)]) noL [] F862 [encV Value v,.one (.rp false (.sl Term) l 0),.one (.rp false FlatV m 0)] []=bif small24 l.length then some (.one (.bool (shutV l m v)))else none:=by kernel_rfl
theorem g862:GoodS Tryz.prog N862 s862:=by
 refine good (.cons g859 (.nil _)) H862 rfl (by kernel_rfl) noL [] (noLoops (by kernel_rfl)) [.v Value,.raw,.raw] (by decide) [] _ fun x r hw h=> ?_
 obtain⟨v,c,d⟩:=x
 simp only at h
 split at h
 ·simp only[Prod.mk.injEq]at h
  obtain⟨hl,rfl⟩:=h
  refine(r862 _ _ v).trans ?_
  rw[hl];rfl
 ·cases h
theorem any_at {α:Type} (d:α) (p:α→Bool) (l:List α):anyN (fun i:Int=>p (l.getD i.toNat d)) l.length=l.any p:=by
 apply Bool.eq_iff_iff.2
 rw[anyN_iff,List.any_eq_true]
 constructor
 ·rintro⟨k,hk,h⟩
  rw[Int.toNat_natCast,List.getD_eq_getElem?_getD,List.getElem?_eq_getElem hk]at h
  exact⟨l[k],List.getElem_mem hk,h⟩
 ·rintro⟨x,hx,h⟩
  obtain⟨k,hk,rfl⟩:=List.getElem_of_mem hx
  exact⟨k,hk,by rw[Int.toNat_natCast,List.getD_eq_getElem?_getD,List.getElem?_eq_getElem hk];exact h⟩
def QoAt (l:List Subset.D) (i:Int):Subset.D:=l.getD i.toNat (Subset:Ty).dflt
def clQo (a k:Int):AV:= .one (.fn N860 [.ptrD false I a,.ptrD false I k])
def vsQo (l:List Subset.D) (c:AV) (r n i:Int):List AV:=[.one (.sl false Subset none l),c,.one (.int .i64 r),.one (.int .i64 n),.one (.int .i64 i)]
def ΓQo:Orc:=orc [(N860,s860)]
abbrev liveQo:List (Nat×Dir):=[(0,.keep),(1,.keep),(4,.keep),(7,.keep),(8,.keep)]
noncomputable abbrev lpQo (Λ:Lam AV) (K:AE→List AV→Option AV) (fuel:Nat) (vs:List AV):Option AV:=loopN (aexec tb ΓQo Λ ⟨19,0,[(0,liveQo)]⟩ (loop1 F342).2 0) 19 0 liveQo K fuel vs
theorem stepQo (l:List Subset.D) (a k:Int) (r n i:Int) (Λ:Lam AV) (fuel:Nat) (K:AE→List AV→Option AV):lpQo Λ K (fuel+1) (vsQo l (clQo a k) r n i)=
 bif decide (i<n)then bif inB i l.length then bif oddS a k (QoAt l i)then K .ret (vsQo l (clQo a k) i n i)else lpQo Λ K fuel (vsQo l (clQo a k) r n (IntKind.i64.wrap (i+1)))else none else K (.exit 0) (vsQo l (clQo a k) r n i):=by kernel_rfl
noncomputable def ΛQo:Lam AV:=fun cur vs K=>
 match cur,vs with
 |0,[.one (.sl false (.pair (.int .u64) (.int .u64)) none l),.one (.fn f [.ptrD false (.int .i64) a,.ptrD false (.int .i64) k]),.one (.int .i64 r),.one (.int .i64 n),.one (.int .i64 0)]=>
  bif Nat.beq f N860&&(decide (n=l.length)&&(decide (n≤9223372036854775807)))then
   (bif decide (idxN (fun i=>oddS a k (QoAt l i)) l.length 0<0)then K (.exit 0) (vsQo l (clQo a k) r n n)else K .ret (vsQo l (clQo a k) (idxN (fun i=>oddS a k (QoAt l i)) l.length 0) n (idxN (fun i=>oddS a k (QoAt l i)) l.length 0)))
  else none
 |_,_=>none
theorem loopQo:LoopP tb ΓQo ΛQo ⟨19,0,[(0,liveQo)]⟩ (loop1 F342):=by
 intro vs K out h
 have hcur:(loop1 F342).1=0:=by kernel_rfl
 rw[hcur]at h⊢
 unfold ΛQo at h
 split at h
 ·rename_i l f a k r n _
  cases hc:(Nat.beq f N860&&(decide (n=l.length)&&(decide (n≤9223372036854775807))))with
  |false=>rw[hc]at h;cases h
  |true=>
   rw[hc]at h
   simp only[cond_true]at h
   simp only[Bool.and_eq_true]at hc
   obtain⟨hf,h1,h2⟩:=hc
   obtain rfl:=Nat.eq_of_beq_eq_true hf
   have h1:=of_decide_eq_true h1
   have hmax:=of_decide_eq_true h2
   subst h1
   refine findN (ok:=fun i=>inB i l.length) (ans:=fun i=>oddS a k (QoAt l i)) (F:=fun fuel i=>lpQo ΛQo K fuel (vsQo l (clQo a k) r l.length i)) (Kx:=fun i=>K (.exit 0) (vsQo l (clQo a k) r l.length i)) (Kr:=fun i=>K .ret (vsQo l (clQo a k) i l.length i)) hmax
    (fun fuel i=>(stepQo l a k r l.length i ΛQo fuel K).trans ?_) (fun j hj=> ?_) h
   ·cases inB i l.length<;>rfl
   ·show(inB ((j:Nat):Int) l.length)=true
    rw[inB_lt hj]
 ·cases h
theorem riQo (l:List Subset.D) (a k:Int):run ΓQo ΛQo [(0,liveQo)] F342 [.one (.sl false Subset none l),clQo a k] []=
 bif Nat.beq N860 N860&&(decide ((l.length:Int)=l.length)&&(decide ((l.length:Int)≤9223372036854775807)))then
  bif decide (idxN (fun i=>oddS a k (QoAt l i)) l.length 0<0)then some (.one (.int .i64 (-1)))else some (.one (.int .i64 (idxN (fun i=>oddS a k (QoAt l i)) l.length 0)))else none:=by kernel_rfl
def siQo:Sp:= .fn [.v (.sl Subset),.raw] fun x=>match x.2 with
 | .one (.fn f [.ptrD false (.int .i64) a,.ptrD false (.int .i64) k])=>(Nat.beq f N860,.one (.int .i64 (bif decide (idxN (fun i=>oddS a k (QoAt x.1 i)) x.1.length 0<0)then -1 else idxN (fun i=>oddS a k (QoAt x.1 i)) x.1.length 0)))
 |_=>(false,AV.junk)
theorem giQo:GoodS Tryz.prog N342 siQo:=by
 refine good (.cons g860 (.nil _)) H342 rfl (by kernel_rfl) ΛQo [(0,liveQo)] (oneLoop (p0:=loop1 F342) (by kernel_rfl) loopQo) [.v (.sl Subset),.raw] (by decide) [] _ fun x r hw h=> ?_
 obtain⟨xs,c⟩:=x
 simp only at h
 split at h
 ·rename_i f a k
  simp only[Prod.mk.injEq]at h
  obtain⟨hf,rfl⟩:=h
  obtain rfl:=Nat.eq_of_beq_eq_true hf
  refine(riQo xs a k).trans ?_
  have hmax:(xs.length:Int)≤9223372036854775807:=by have:xs.length≤9223372036854775807:=hw.1.1;omega
  rw[decide_eq_true hmax,decide_eq_true rfl,show Nat.beq N860 N860=true from rfl]
  simp only[Bool.and_self,cond_true]
  cases decide (idxN (fun i=>oddS a k (QoAt xs i)) xs.length 0<0)<;>rfl
 ·cases h
theorem rcQo (l:List Subset.D) (a k:Int):run (orc [(N342,siQo)]) noL [] F339 [.one (.sl false Subset none l),clQo a k] []=
 bif Nat.beq N860 N860 then some (.one (.bool (decide ((bif decide (idxN (fun i=>oddS a k (QoAt l i)) l.length 0<0)then -1 else idxN (fun i=>oddS a k (QoAt l i)) l.length 0)≥0))))else none:=by kernel_rfl
def scQo:Sp:= .fn [.v (.sl Subset),.raw] fun x=>match x.2 with
 | .one (.fn f [.ptrD false (.int .i64) a,.ptrD false (.int .i64) k])=>(Nat.beq f N860,.one (.bool (x.1.any fun s=>oddS a k s)))
 |_=>(false,AV.junk)
theorem gcQo:GoodS Tryz.prog N339 scQo:=by
 refine good (.cons giQo (.nil _)) H339 rfl (by kernel_rfl) noL [] (noLoops (by kernel_rfl)) [.v (.sl Subset),.raw] (by decide) [] _ fun x r hw h=> ?_
 obtain⟨xs,c⟩:=x
 simp only at h
 split at h
 ·rename_i f a k
  simp only[Prod.mk.injEq]at h
  obtain⟨hf,rfl⟩:=h
  obtain rfl:=Nat.eq_of_beq_eq_true hf
  refine(rcQo xs a k).trans ?_
  rw[←any_at (Subset:Ty).dflt (fun s=>oddS a k s) xs]
  unfold anyN
  show some _=some _
  congr 3
  show decide ((bif decide (idxN (fun i=>oddS a k (xs.getD i.toNat (Subset:Ty).dflt)) xs.length 0<0)then -1 else idxN (fun i=>oddS a k (xs.getD i.toNat (Subset:Ty).dflt)) xs.length 0)≥0)=_
  cases hd:decide (idxN (fun i=>oddS a k (xs.getD i.toNat (Subset:Ty).dflt)) xs.length 0<0)with
  |true=>rfl
  |false=>
   have:=of_decide_eq_false hd
   simp only[cond_false]
   rw[decide_eq_true (by omega)];rfl
 ·cases h
def QwAt (l:List Value.D) (i:Int):Value.D:=l.getD i.toNat (Value:Ty).dflt
def clQw (t:List Term.D) (m:FlatV.D):AV:= .one (.fn N862 [.ptrD false (.sl Term) t,.ptrD false FlatV m])
def vsQw (l:List Value.D) (c:AV) (r n i:Int):List AV:=[.one (.sl false Value none l),c,.one (.int .i64 r),.one (.int .i64 n),.one (.int .i64 i)]
def ΓQw:Orc:=orc [(N862,s862)]
abbrev liveQw:List (Nat×Dir):=[(0,.keep),(1,.keep),(4,.keep),(7,.keep),(8,.keep)]
noncomputable abbrev lpQw (Λ:Lam AV) (K:AE→List AV→Option AV) (fuel:Nat) (vs:List AV):Option AV:=loopN (aexec tb ΓQw Λ ⟨19,0,[(0,liveQw)]⟩ (loop1 F921).2 0) 19 0 liveQw K fuel vs
theorem stepQw (l:List Value.D) (t:List Term.D) (m:FlatV.D) (r n i:Int) (Λ:Lam AV) (fuel:Nat) (K:AE→List AV→Option AV):lpQw Λ K (fuel+1) (vsQw l (clQw t m) r n i)=
 bif decide (i<n)then bif inB i l.length then bif small24 t.length then bif shutV t m (QwAt l i)then K .ret (vsQw l (clQw t m) i n i)else lpQw Λ K fuel (vsQw l (clQw t m) r n (IntKind.i64.wrap (i+1)))else none else none else K (.exit 0) (vsQw l (clQw t m) r n i):=by kernel_rfl
noncomputable def ΛQw:Lam AV:=fun cur vs K=>
 match cur,vs with
 |0,[.one (.sl false (.pair .bool (.pair .bool (.pair (.pair (.int .u64) (.int .u64)) (.pair (.pair (.pair (.int .u64) (.int .u64)) (.pair (.int .u64) (.int .u64))) (.int .i64))))) none l),.one (.fn f [.ptrD false (.sl (.pair (.int .i64) (.pair (.int .i64) (.int .i64)))) t,.ptrD false (.pair .bool (.pair .bool (.pair (.int .u64) (.pair (.int .u64) (.pair (.int .u64) (.pair (.int .u64) (.pair (.int .u64) (.pair (.int .u64) (.int .i64))))))))) m]),.one (.int .i64 r),.one (.int .i64 n),.one (.int .i64 0)]=>
  bif Nat.beq f N862&&(decide (n=l.length)&&(decide (n≤9223372036854775807)&&small24 t.length))then
   (bif decide (idxN (fun i=>shutV t m (QwAt l i)) l.length 0<0)then K (.exit 0) (vsQw l (clQw t m) r n n)else K .ret (vsQw l (clQw t m) (idxN (fun i=>shutV t m (QwAt l i)) l.length 0) n (idxN (fun i=>shutV t m (QwAt l i)) l.length 0)))
  else none
 |_,_=>none
theorem loopQw:LoopP tb ΓQw ΛQw ⟨19,0,[(0,liveQw)]⟩ (loop1 F921):=by
 intro vs K out h
 have hcur:(loop1 F921).1=0:=by kernel_rfl
 rw[hcur]at h⊢
 unfold ΛQw at h
 split at h
 ·rename_i l f t m r n _
  cases hc:(Nat.beq f N862&&(decide (n=l.length)&&(decide (n≤9223372036854775807)&&small24 t.length)))with
  |false=>rw[hc]at h;cases h
  |true=>
   rw[hc]at h
   simp only[cond_true]at h
   simp only[Bool.and_eq_true]at hc
   obtain⟨hf,h1,h2,h3⟩:=hc
   obtain rfl:=Nat.eq_of_beq_eq_true hf
   have h1:=of_decide_eq_true h1
   have hmax:=of_decide_eq_true h2
   subst h1
   refine findN (ok:=fun i=>inB i l.length&&small24 t.length) (ans:=fun i=>shutV t m (QwAt l i)) (F:=fun fuel i=>lpQw ΛQw K fuel (vsQw l (clQw t m) r l.length i)) (Kx:=fun i=>K (.exit 0) (vsQw l (clQw t m) r l.length i)) (Kr:=fun i=>K .ret (vsQw l (clQw t m) i l.length i)) hmax
    (fun fuel i=>(stepQw l t m r l.length i ΛQw fuel K).trans ?_) (fun j hj=> ?_) h
   ·cases inB i l.length<;>cases small24 t.length<;>rfl
   ·show(inB ((j:Nat):Int) l.length&&small24 t.length)=true
    rw[inB_lt hj];exact h3
 ·cases h
theorem riQw (l:List Value.D) (t:List Term.D) (m:FlatV.D):run ΓQw ΛQw [(0,liveQw)] F921 [.one (.sl false Value none l),clQw t m] []=
 bif Nat.beq N862 N862&&(decide ((l.length:Int)=l.length)&&(decide ((l.length:Int)≤9223372036854775807)&&small24 t.length))then
  bif decide (idxN (fun i=>shutV t m (QwAt l i)) l.length 0<0)then some (.one (.int .i64 (-1)))else some (.one (.int .i64 (idxN (fun i=>shutV t m (QwAt l i)) l.length 0)))else none:=by kernel_rfl
def siQw:Sp:= .fn [.v (.sl Value),.raw] fun x=>match x.2 with
 | .one (.fn f [.ptrD false (.sl (.pair (.int .i64) (.pair (.int .i64) (.int .i64)))) t,.ptrD false (.pair .bool (.pair .bool (.pair (.int .u64) (.pair (.int .u64) (.pair (.int .u64) (.pair (.int .u64) (.pair (.int .u64) (.pair (.int .u64) (.int .i64))))))))) m])=>(Nat.beq f N862&&small24 t.length,.one (.int .i64 (bif decide (idxN (fun i=>shutV t m (QwAt x.1 i)) x.1.length 0<0)then -1 else idxN (fun i=>shutV t m (QwAt x.1 i)) x.1.length 0)))
 |_=>(false,AV.junk)
theorem giQw:GoodS Tryz.prog N921 siQw:=by
 refine good (.cons g862 (.nil _)) H921 rfl (by kernel_rfl) ΛQw [(0,liveQw)] (oneLoop (p0:=loop1 F921) (by kernel_rfl) loopQw) [.v (.sl Value),.raw] (by decide) [] _ fun x r hw h=> ?_
 obtain⟨xs,c⟩:=x
 simp only at h
 split at h
 ·rename_i f t m
  simp only[Prod.mk.injEq,Bool.and_eq_true]at h
  obtain⟨⟨hf,hg⟩,rfl⟩:=h
  obtain rfl:=Nat.eq_of_beq_eq_true hf
  refine(riQw xs t m).trans ?_
  have hmax:(xs.length:Int)≤9223372036854775807:=by have:xs.length≤9223372036854775807:=hw.1.1;omega
  rw[decide_eq_true hmax,hg,decide_eq_true rfl,show Nat.beq N862 N862=true from rfl]
  simp only[Bool.and_self,cond_true]
  cases decide (idxN (fun i=>shutV t m (QwAt xs i)) xs.length 0<0)<;>rfl
 ·cases h
theorem rcQw (l:List Value.D) (t:List Term.D) (m:FlatV.D):run (orc [(N921,siQw)]) noL [] F864 [.one (.sl false Value none l),clQw t m] []=
 bif Nat.beq N862 N862&&small24 t.length then some (.one (.bool (decide ((bif decide (idxN (fun i=>shutV t m (QwAt l i)) l.length 0<0)then -1 else idxN (fun i=>shutV t m (QwAt l i)) l.length 0)≥0))))else none:=by kernel_rfl
def scQw:Sp:= .fn [.v (.sl Value),.raw] fun x=>match x.2 with
 | .one (.fn f [.ptrD false (.sl (.pair (.int .i64) (.pair (.int .i64) (.int .i64)))) t,.ptrD false (.pair .bool (.pair .bool (.pair (.int .u64) (.pair (.int .u64) (.pair (.int .u64) (.pair (.int .u64) (.pair (.int .u64) (.pair (.int .u64) (.int .i64))))))))) m])=>(Nat.beq f N862&&small24 t.length,.one (.bool (x.1.any fun s=>shutV t m s)))
 |_=>(false,AV.junk)
theorem gcQw:GoodS Tryz.prog N864 scQw:=by
 refine good (.cons giQw (.nil _)) H864 rfl (by kernel_rfl) noL [] (noLoops (by kernel_rfl)) [.v (.sl Value),.raw] (by decide) [] _ fun x r hw h=> ?_
 obtain⟨xs,c⟩:=x
 simp only at h
 split at h
 ·rename_i f t m
  simp only[Prod.mk.injEq,Bool.and_eq_true]at h
  obtain⟨⟨hf,hg⟩,rfl⟩:=h
  obtain rfl:=Nat.eq_of_beq_eq_true hf
  refine(rcQw xs t m).trans ?_
  rw[hg,←any_at (Value:Ty).dflt (fun s=>shutV t m s) xs]
  unfold anyN
  show some _=some _
  congr 3
  show decide ((bif decide (idxN (fun i=>shutV t m (xs.getD i.toNat (Value:Ty).dflt)) xs.length 0<0)then -1 else idxN (fun i=>shutV t m (xs.getD i.toNat (Value:Ty).dflt)) xs.length 0)≥0)=_
  cases hd:decide (idxN (fun i=>shutV t m (xs.getD i.toNat (Value:Ty).dflt)) xs.length 0<0)with
  |true=>rfl
  |false=>
   have:=of_decide_eq_false hd
   simp only[cond_false]
   rw[decide_eq_true (by omega)];rfl
 ·cases h
@[reducible] def Part:Ty:= .pair Subset Value
def Γ824:Orc:=orc [(N859,s859),(N339,scQo),(N864,scQw),(N47,s47f),(N320,s320),(N17,s17)]
abbrev live824:List (Nat×Dir):=[(5,.keep),(7,.keep),(8,.keep),(9,.keep),(12,.keep),(13,.keep),(14,.keep),(17,.keep),(18,.keep),(51,.keep),(52,.keep),(53,.keep),(54,.keep)]
def vs824 (v:List Value.D) (h k:Int) (m:Value.D) (e:Int) (own:List Term.D) (out:List Part.D) (c:List Subset.D) (n i:Int):List AV:=
 [.one (.sl false Value none v),.own [.int .i64 h],.own [.int .i64 k],.own (enc Value false m),.one .nils,.one .nils,.one (.int .i64 e),.one (.sl true Term none own),.one (.hot 51 none),.arr true Part out,.one (.sl false Subset none c),.one (.int .i64 n),.one (.int .i64 i)]
noncomputable abbrev lo824 (Λ:Lam AV) (K:AE→List AV→Option AV) (fuel:Nat) (vs:List AV):Option AV:=loopN (aexec tb Γ824 Λ ⟨97,0,[(0,live824)]⟩ (loop1 F824).2 0) 97 0 live824 K fuel vs
def vaT (v:List Value.D) (i:Int):Value.D:=v.getD i.toNat (Value:Ty).dflt
def pS1 (out:List Part.D) (i:Int) (s:Subset.D):List Part.D:=out.set i.toNat (s,(out.getD i.toNat Part.dflt).2)
def pS2 (out:List Part.D) (i:Int) (w:Value.D):List Part.D:=out.set i.toNat ((out.getD i.toNat Part.dflt).1,w)
theorem pS1_len (out:List Part.D) (i:Int) (s:Subset.D):(pS1 out i s).length=out.length:=by unfold pS1;simp
theorem pS2_len (out:List Part.D) (i:Int) (w:Value.D):(pS2 out i w).length=out.length:=by unfold pS2;simp
noncomputable def st824 (Λ:Lam AV) (K:AE→List AV→Option AV) (fuel:Nat) (v:List Value.D) (h k:Int) (m:Value.D) (e:Int) (own:List Term.D) (out:List Part.D) (c:List Subset.D) (n i:Int) (key:WS):Option AV:=
 bif key.2.2 ==0 then bif inB i out.length then bif inB i v.length then bif inB i (pS1 out i (sAt c i)).length then
  bif (wrapV key.2.1 key.1 (vaT v i)).2.2 != 0 then K .ret (vs824 v h k m (wrapV key.2.1 key.1 (vaT v i)).2.2 (wrapV key.2.1 key.1 (vaT v i)).2.1 (pS2 (pS1 out i (sAt c i)) i (wrapV key.2.1 key.1 (vaT v i)).1) c n i)
  else lo824 Λ K fuel (vs824 v h k m e (wrapV key.2.1 key.1 (vaT v i)).2.1 (pS2 (pS1 out i (sAt c i)) i (wrapV key.2.1 key.1 (vaT v i)).1) c n (IntKind.i64.wrap (i+1)))else none else none else none
 else bif key.2.2 != 0 then K .ret (vs824 v h k m key.2.2 own out c n i)else lo824 Λ K fuel (vs824 v h k m e own out c n (IntKind.i64.wrap (i+1)))
theorem step824 (v:List Value.D) (h k:Int) (m:Value.D) (e:Int) (own:List Term.D) (out:List Part.D) (c:List Subset.D) (n i:Int) (Λ:Lam AV) (K:AE→List AV→Option AV) (fuel:Nat):lo824 Λ K (fuel+1) (vs824 v h k m e own out c n i)=
 bif decide (i<n)then bif inB i c.length then bif small24 own.length then st824 Λ K fuel v h k m e own out c n i (keyV own h k m (sAt c i))else none else none else K (.exit 0) (vs824 v h k m e own out c n i):=by kernel_rfl
def someR (h k:Int) (m:Value.D) (c:List Subset.D) (v:List Value.D):Nat→Nat→List Term.D→List Part.D→Bool×List Term.D×List Part.D×Int×Nat
 |0,j,own,out=>(false,own,out,0,j)
 |f+1,j,own,out=>
  bif (keyV own h k m (sAt c j)).2.2 != 0 then(true,own,out,(keyV own h k m (sAt c j)).2.2,j)else
  bif (wrapV (keyV own h k m (sAt c j)).2.1 (keyV own h k m (sAt c j)).1 (vaT v j)).2.2 != 0 then
   (true,(wrapV (keyV own h k m (sAt c j)).2.1 (keyV own h k m (sAt c j)).1 (vaT v j)).2.1,pS2 (pS1 out j (sAt c j)) j (wrapV (keyV own h k m (sAt c j)).2.1 (keyV own h k m (sAt c j)).1 (vaT v j)).1,(wrapV (keyV own h k m (sAt c j)).2.1 (keyV own h k m (sAt c j)).1 (vaT v j)).2.2,j)
  else someR h k m c v f (j+1) (wrapV (keyV own h k m (sAt c j)).2.1 (keyV own h k m (sAt c j)).1 (vaT v j)).2.1 (pS2 (pS1 out j (sAt c j)) j (wrapV (keyV own h k m (sAt c j)).2.1 (keyV own h k m (sAt c j)).1 (vaT v j)).1)
def finS (v:List Value.D) (h k:Int) (m:Value.D) (c:List Subset.D) (n:Int) (K:AE→List AV→Option AV) (x:Bool×List Term.D×List Part.D×Int×Nat):Option AV:=
 bif x.1 then K .ret (vs824 v h k m x.2.2.2.1 x.2.1 x.2.2.1 c n x.2.2.2.2)else K (.exit 0) (vs824 v h k m 0 x.2.1 x.2.2.1 c n n)
def g824 (v:List Value.D) (own:List Term.D) (out:List Part.D) (c:List Subset.D) (n:Int):Bool:=decide (n=c.length)&&(decide (out.length=c.length)&&(decide (v.length=c.length)&&(decide (own.length≤1000000)&&decide (c.length≤1000000))))
def Λ824:Lam AV:=fun _ vs K=>
 match vs with
 |[.one (.sl false (.pair .bool (.pair .bool (.pair (.pair (.int .u64) (.int .u64)) (.pair (.pair (.pair (.int .u64) (.int .u64)) (.pair (.int .u64) (.int .u64))) (.int .i64))))) none v),.own [.int .i64 h],.own [.int .i64 k],.own cs,.one .nils,.one .nils,.one (.int .i64 0),.one (.sl true (.pair (.int .i64) (.pair (.int .i64) (.int .i64))) none own),.one (.hot 51 none),.arr true (.pair (.pair (.int .u64) (.int .u64)) (.pair .bool (.pair .bool (.pair (.pair (.int .u64) (.int .u64)) (.pair (.pair (.pair (.int .u64) (.int .u64)) (.pair (.int .u64) (.int .u64))) (.int .i64)))))) out,.one (.sl false (.pair (.int .u64) (.int .u64)) none c),.one (.int .i64 n),.one (.int .i64 0)]=>
  (match unV (.agg cs)with
  |some m=>bif g824 v own out c n then finS v h k m c n K (someR h k m c v n.toNat 0 own out)else none
  |none=>none)
 |_=>none
theorem wrapV_bd (l:List Term.D) (a b:Value.D):(wrapV l a b).2.1.length ≤max l.length 65537:=by
 unfold wrapV
 cases isV l [false,false] [a,b] != 0 with
 |true=>simp
 |false=>
  cases a.1 with
  |true=>exact madeV_bd _ _
  |false=>exact Nat.le_max_left _ _
theorem loop824:LoopP tb Γ824 Λ824 ⟨97,0,[(0,live824)]⟩ (loop1 F824):=by
 intro vs K out e
 have hcur:(loop1 F824).1=0:=by kernel_rfl
 rw[hcur]at e⊢
 unfold Λ824 at e
 split at e
 ·rename_i v h k cs own o0 c n
  split at e
  ·rename_i m hm
   cases hc:g824 v own o0 c n with
   |false=>rw[hc]at e;cases e
   |true=>
    rw[hc]at e
    simp only[cond_true]at e
    unfold g824 at hc
    simp only[Bool.and_eq_true,decide_eq_true_eq]at hc
    obtain⟨rfl,ho,hv,hl,hmax⟩:=hc
    rw[own_eq hm]
    refine upLoopI (α:=List Term.D×List Part.D) (n:=c.length) (F:=fun fuel a i=>lo824 Λ824 K fuel (vs824 v h k m 0 a.1 a.2 c c.length i))
     (G:=fun j a=>finS v h k m c c.length K (someR h k m c v (c.length-j) j a.1 a.2)) (Inv:=fun j a=>a.1.length ≤1000000∧a.2.length =c.length)
     (fun fuel a=> ?_) (fun a j hj hi=> ?_) c.length 0 (own,o0) out (by omega) ⟨hl,ho⟩ e
    ·simp only[step824,nlt_dec,cond_false,Nat.sub_self,someR,finS]
    ·obtain⟨i1,i2⟩:=hi
     have hm':c.length-j=(c.length-(j+1))+1:=by omega
     have hstep: ∀fuel,lo824 Λ824 K (fuel+1) (vs824 v h k m 0 a.1 a.2 c c.length j)=st824 Λ824 K fuel v h k m 0 a.1 a.2 c c.length j (keyV a.1 h k m (sAt c j)):=by
      intro fuel
      rw[step824,lt_dec hj,inB_lt hj,small_le i1];rfl
     have hkb:=keyV_bd a.1 h k m (sAt c j)
     cases hx:(keyV a.1 h k m (sAt c j)).2.2 != 0 with
     |true=>
      right;intro fuel
      have hx0:((keyV a.1 h k m (sAt c j)).2.2 ==0)=false:=by simpa using hx
      rw[hstep,hm',someR,hx]
      unfold st824
      rw[hx0,hx];rfl
     |false=>
      have hx0:((keyV a.1 h k m (sAt c j)).2.2 ==0)=true:=by simpa using hx
      have hwb:=wrapV_bd (keyV a.1 h k m (sAt c j)).2.1 (keyV a.1 h k m (sAt c j)).1 (vaT v j)
      cases hy:(wrapV (keyV a.1 h k m (sAt c j)).2.1 (keyV a.1 h k m (sAt c j)).1 (vaT v j)).2.2 != 0 with
      |true=>
       right;intro fuel
       rw[hstep,hm',someR,hx,hy]
       unfold st824
       rw[hx0,hy,inB_lt (show j<a.2.length by omega),inB_lt (show j<v.length by omega),inB_lt (show j<(pS1 a.2 j (sAt c j)).length by rw[pS1_len];omega)];rfl
      |false=>
       left
       refine⟨((wrapV (keyV a.1 h k m (sAt c j)).2.1 (keyV a.1 h k m (sAt c j)).1 (vaT v j)).2.1,pS2 (pS1 a.2 j (sAt c j)) j (wrapV (keyV a.1 h k m (sAt c j)).2.1 (keyV a.1 h k m (sAt c j)).1 (vaT v j)).1),⟨?_,by rw[pS2_len,pS1_len];exact i2⟩,fun fuel=> ?_, ?_⟩
       ·simp only;omega
       ·rw[hstep]
        unfold st824
        rw[hx0,hy,inB_lt (show j<a.2.length by omega),inB_lt (show j<v.length by omega),inB_lt (show j<(pS1 a.2 j (sAt c j)).length by rw[pS1_len];omega),wrap64 (n:=(j:Int)+1) (by omega) (by omega)];rfl
       ·rw[hm',someR,hx,hy];rfl
  ·cases e
 ·cases e
def someX (l:List Term.D) (h k:Int) (m:Value.D) (c:List Subset.D) (v:List Value.D):Bool×List Term.D×List Part.D×Int×Nat:=someR h k m c v (c.length:Int).toNat 0 l (List.replicate (c.length:Int).toNat (Part:Ty).dflt)
def flatV (m:Value.D):FlatV.D:=(m.1,m.2.1,m.2.2.1.1,m.2.2.1.2,m.2.2.2.1.1.1,m.2.2.2.1.1.2,m.2.2.2.1.2.1,m.2.2.2.1.2.2,m.2.2.2.2)
def noSome (l:List Term.D) (m:Value.D) (c:List Subset.D) (v:List Value.D):Bool:=bif (c.length:Int) != v.length then true else !opB l m m.1
def badSome (l:List Term.D) (h k:Int) (m:Value.D) (c:List Subset.D) (v:List Value.D):Bool:=bif c.any (fun s=>oddS h k s)then true else v.any fun s=>shutV l (flatV m) s
def rPt (x:List Part.D×List Term.D×Int):AV:= .tup [(false,[.sl true Part none x.1]),(false,[.sl true Term none x.2.1]),(false,[.int .i64 x.2.2])]
@[reducible] def S6:List AK:=[.v (.sl Term),.v I,.v I,.v Value,.v (.sl Subset),.v (.sl Value)]
theorem r824 (l:List Term.D) (h k:Int) (m:Value.D) (c:List Subset.D) (v:List Value.D):run Γ824 Λ824 [(0,live824)] F824 (encA S6 (l,h,k,m,c,v)) [.sl true Part,.sl true Term,.id]=
 bif small24 l.length|| !boolBeq ((c.length:Int) != v.length) false then bif noSome l m c v then some (rPt ([],[],1))else
  bif (Nat.beq N862 N862&&small24 l.length)|| !boolBeq (c.any fun s=>oddS h k s) false then bif badSome l h k m c v then some (rPt ([],[],1))else
   bif small24 l.length then bif decide (0≤(c.length:Int))&&decide ((c.length:Int)≤c.length)&&decide ((80:Int)*c.length≤281474976710656)then
    bif g824 v l (List.replicate (c.length:Int).toNat (Part:Ty).dflt) c c.length then bif (someX l h k m c v).1 then some (rPt ([],[],(someX l h k m c v).2.2.2.1))else some (rPt ((someX l h k m c v).2.2.1,(someX l h k m c v).2.1,0))else none
   else none else none else none else none:=by kernel_rfl
def someV (l:List Term.D) (h k:Int) (m:Value.D) (c:List Subset.D) (v:List Value.D):List Part.D×List Term.D×Int:=
 bif noSome l m c v then([],[],1)else bif badSome l h k m c v then([],[],1)else bif (someX l h k m c v).1 then([],[],(someX l h k m c v).2.2.2.1)else((someX l h k m c v).2.2.1,(someX l h k m c v).2.1,0)
def s824:Sp:= .fn S6 fun x=>(decide (x.1.length ≤1000000)&&decide (x.2.2.2.2.1.length ≤1000000),rPt (someV x.1 x.2.1 x.2.2.1 x.2.2.2.1 x.2.2.2.2.1 x.2.2.2.2.2))
theorem g824s:GoodS Tryz.prog N824 s824:=by
 refine good (.cons g859 (.cons gcQo (.cons gcQw (.cons g47f (.cons g320 (.cons g17 (.nil _))))))) H824 rfl (by kernel_rfl) Λ824 [(0,live824)] (oneLoop (p0:=loop1 F824) (by kernel_rfl) loop824) S6 (by decide) [.sl true Part,.sl true Term,.id] _ fun x r hw e=> ?_
 obtain⟨l,h,k,m,c,v⟩:=x
 simp only[Prod.mk.injEq,Bool.and_eq_true,decide_eq_true_eq]at e
 obtain⟨⟨e1,e2⟩,rfl⟩:=e
 refine(r824 l h k m c v).trans ?_
 rw[small_le e1]
 unfold someV
 cases hn:noSome l m c v with
 |true=>rfl
 |false=>
  have hv:v.length=c.length:=by
   unfold noSome at hn
   cases h9:(c.length:Int) != v.length with
   |true=>rw[h9]at hn;cases hn
   |false=>
    have:(c.length:Int)=v.length:=by simpa using h9
    omega
  cases badSome l h k m c v with
  |true=>rfl
  |false=>
   have hg:g824 v l (List.replicate (c.length:Int).toNat (Part:Ty).dflt) c c.length=true:=by
    unfold g824
    rw[decide_eq_true rfl,decide_eq_true (show(List.replicate (c.length:Int).toNat (Part:Ty).dflt).length=c.length by rw[List.length_replicate,Int.toNat_natCast]),decide_eq_true hv,decide_eq_true e1,decide_eq_true e2];rfl
   rw[hg,decide_eq_true (show 0≤(c.length:Int) by omega),decide_eq_true (show(c.length:Int)≤c.length by omega),decide_eq_true (show(80:Int)*c.length≤281474976710656 by omega)]
   simp only[Bool.and_self,cond_true,cond_false,Bool.true_or,show Nat.beq N862 N862=true from rfl]
   cases (someX l h k m c v).1<;>rfl
def mk32 (x:Int):Int:=IntKind.u64.wrap ↑(BitVec.ofInt IntKind.u64.bits x&&&BitVec.ofInt IntKind.u64.bits 4294967295).toNat
def sh32 (x:Int):Int:=x.fdiv (2^min (Int.toNat 32) IntKind.u64.bits)
def mulM (a b:Int):Int:=IntKind.u64.wrap (IntKind.u64.wrap (sh32 a*mk32 b)+sh32 (IntKind.u64.wrap (mk32 a*mk32 b)))
def mulH (a b:Int):Int:=IntKind.u64.wrap (IntKind.u64.wrap (IntKind.u64.wrap (sh32 a*sh32 b)+sh32 (mulM a b))+sh32 (IntKind.u64.wrap (mk32 (mulM a b)+IntKind.u64.wrap (mk32 a*sh32 b))))
def rMul (h l:Int):AV:= .tup [(false,[.int .u64 h]),(false,[.int .u64 l])]
theorem r1009 (a b:Int):run (orc []) noL [] F1009 [.one (.int .u64 a),.one (.int .u64 b)] []=some (rMul (mulH a b) (IntKind.u64.wrap (a*b))):=by kernel_rfl
theorem mk32_of {x:Int} (h0:0≤x) (h1:x<4294967296):mk32 x=x:=by
 obtain⟨n,rfl⟩:=Int.eq_ofNat_of_zero_le h0
 have h1:n<4294967296:=by omega
 unfold mk32
 have e1:(BitVec.ofInt IntKind.u64.bits (n:Int)).toNat=n:=by
  show(BitVec.ofInt 64 (n:Int)).toNat=n
  rw[BitVec.toNat_ofInt];omega
 have e2:(BitVec.ofInt IntKind.u64.bits (4294967295:Int)).toNat=4294967295:=by decide
 rw[BitVec.toNat_and,e1,e2,show(4294967295:Nat)=2^32-1 by decide,Nat.and_two_pow_sub_one_eq_mod,Nat.mod_eq_of_lt (by simpa using h1)]
 exact wrapU (by omega) (by omega)
theorem sh32_of {x:Int} (h0:0≤x) (h1:x<4294967296):sh32 x=0:=by
 unfold sh32
 have e:(2:Int)^min (Int.toNat 32) IntKind.u64.bits=4294967296:=by decide
 rw[e,Int.fdiv_eq_ediv_of_nonneg _ (by omega)]
 omega
theorem mul_one {b:Int} (h0:0≤b) (h1:b<4294967296):mulH 1 b=0∧IntKind.u64.wrap (1*b)=b:=by
 have w0:IntKind.u64.wrap 0=0:=by decide
 have m1:=mk32_of (x:=1) (by omega) (by omega)
 have s1:=sh32_of (x:=1) (by omega) (by omega)
 have m0:=mk32_of (x:=0) (by omega) (by omega)
 have s0:=sh32_of (x:=0) (by omega) (by omega)
 have mb:=mk32_of h0 h1
 have sb:=sh32_of h0 h1
 have wb:IntKind.u64.wrap b=b:=wrapU (by omega) (by omega)
 have hM:mulM 1 b=0:=by unfold mulM;simp only[m1,s1,mb,sb,Int.one_mul,Int.zero_mul,Int.mul_zero,w0,wb,Int.zero_add]
 refine⟨?_,by rw[Int.one_mul];exact wb⟩
 unfold mulH
 simp only[hM,m1,s1,sb,m0,s0,Int.zero_mul,Int.mul_zero,w0,Int.zero_add]
def okM (x:Int×Int):Bool:=decide (x.1=1)&&(decide (0≤x.2)&&decide (x.2<4294967296))
def s1009:Sp:= .fn [.v U,.v U] fun x=>(okM x,rMul 0 x.2)
theorem g1009:GoodS Tryz.prog N1009 s1009:=by
 refine good (OrcOk.nil _) H1009 rfl (by kernel_rfl) noL [] (noLoops (by kernel_rfl)) [.v U,.v U] (by decide) [] _ fun x r hw e=> ?_
 obtain⟨a,b⟩:=x
 simp only[Prod.mk.injEq]at e
 obtain⟨h,rfl⟩:=e
 unfold okM at h
 simp only[Bool.and_eq_true,decide_eq_true_eq]at h
 obtain⟨rfl,h0,h1⟩:=h
 obtain⟨e1,e2⟩:=mul_one h0 h1
 refine(r1009 1 b).trans ?_
 rw[e1,e2]
theorem r934 (a b:Int):run (orc [(N1009,s1009)]) noL [] F934 [.one (.int .u64 a),.one (.int .u64 b)] []=bif okM (a,b)then some (rMul 0 b)else none:=by kernel_rfl
def s934:Sp:= .fn [.v U,.v U] fun x=>(okM x,rMul 0 x.2)
theorem g934:GoodS Tryz.prog N934 s934:=by
 refine good (.cons g1009 (.nil _)) H934 rfl (by kernel_rfl) noL [] (noLoops (by kernel_rfl)) [.v U,.v U] (by decide) [] _ fun x r hw e=> ?_
 obtain⟨a,b⟩:=x
 simp only[Prod.mk.injEq]at e
 obtain⟨h,rfl⟩:=e
 refine(r934 a b).trans ?_
 rw[h];rfl
def Γ871:Orc:=orc [(N934,s934)]
abbrev live871:List (Nat×Dir):=[(7,.keep),(8,.keep),(30,.keep)]
def vs871 (out:List Value.D) (n:Int):List AV:=[.one (.hot 30 none),.one (.int .i64 n),.arr true Value out]
noncomputable abbrev lo871 (Λ:Lam AV) (K:AE→List AV→Option AV) (fuel:Nat) (vs:List AV):Option AV:=loopN (aexec tb Γ871 Λ ⟨48,0,[(0,live871)]⟩ (loop1 F871).2 0) 48 0 live871 K fuel vs
def rpQ (out:List Value.D) (n:Int):Nat:=(List.take n.toNat out).length.min ((out.length:Int).toNat-n.toNat)
def rpS (out:List Value.D) (n:Int):List Value.D:=List.take n.toNat out++(List.take ((out.length:Int).toNat-n.toNat) (List.take n.toNat out)++List.drop (n.toNat+rpQ out n) out)
theorem step871 (out:List Value.D) (n:Int) (Λ:Lam AV) (K:AE→List AV→Option AV) (fuel:Nat):lo871 Λ K (fuel+1) (vs871 out n)=
 bif decide (n<out.length)then bif decide (0≤n)&&decide (n<(out.length:Int))&&decide ((out.length:Int)≤out.length)then bif decide (0≤n)&&decide (n≤out.length)then
  lo871 Λ K fuel (vs871 (rpS out n) (IntKind.i64.wrap (n+(rpQ out n:Nat))))else none else none else K (.exit 0) (vs871 out n):=by kernel_rfl
theorem rp_ok {v:Value.D} {out:List Value.D} {n:Nat} (h:n<out.length) (ht:out.take n=List.replicate n v):
 rpQ out n=min n (out.length-n)∧(rpS out n).length=out.length∧(rpS out n).take (n+rpQ out n)=List.replicate (n+rpQ out n) v:=by
 have hq:rpQ out n=min n (out.length-n):=by
  unfold rpQ
  rw[Int.toNat_natCast,Int.toNat_natCast,ht,List.length_replicate]
 have hs:rpS out n=List.replicate (n+rpQ out n) v++List.drop (n+rpQ out n) out:=by
  have e:List.take (out.length-n) (List.replicate n v)=List.replicate (rpQ out n) v:=by rw[List.take_replicate,hq,Nat.min_comm]
  unfold rpS
  rw[Int.toNat_natCast,Int.toNat_natCast,ht,e,←List.append_assoc,List.replicate_append_replicate]
 refine⟨hq, ?_, ?_⟩
 ·rw[hs,List.length_append,List.length_replicate,List.length_drop];omega
 ·rw[hs,List.take_left' (List.length_replicate ..)]
def g871 (out:List Value.D) (n:Int):Bool:=decide (n=((min 1 out.length:Nat):Int))&&decide (out.length≤1000000)
def va0 (out:List Value.D):Value.D:=out.getD 0 (Value:Ty).dflt
def Λ871:Lam AV:=fun _ vs K=>
 match vs with
 |[.one (.hot 30 none),.one (.int .i64 n),.arr true (.pair .bool (.pair .bool (.pair (.pair (.int .u64) (.int .u64)) (.pair (.pair (.pair (.int .u64) (.int .u64)) (.pair (.int .u64) (.int .u64))) (.int .i64))))) out]=>
  bif g871 out n then K (.exit 0) (vs871 (List.replicate out.length (va0 out)) out.length)else none
 |_=>none
theorem loop871:LoopP tb Γ871 Λ871 ⟨48,0,[(0,live871)]⟩ (loop1 F871):=by
 intro vs K r e
 have hcur:(loop1 F871).1=0:=by kernel_rfl
 rw[hcur]at e⊢
 unfold Λ871 at e
 split at e
 ·rename_i n o0
  cases hc:g871 o0 n with
  |false=>rw[hc]at e;cases e
  |true=>
   rw[hc]at e
   simp only[cond_true]at e
   unfold g871 at hc
   simp only[Bool.and_eq_true,decide_eq_true_eq]at hc
   obtain⟨rfl,hmax⟩:=hc
   have key: ∀(f n:Nat) (out:List Value.D),out.length-n<f→n≤out.length→(n=0→out.length=0)→out.length=o0.length→out.take n=List.replicate n (va0 o0)→ ∃fuel,lo871 Λ871 K fuel (vs871 out n)=some r:=by
    intro f
    induction f with
    |zero=>intro n out h;omega
    |succ f ih=>
     intro n out hf hn hz hl ht
     rcases Nat.lt_or_eq_of_le hn with hlt|rfl
     ·obtain⟨q1,q2,q3⟩:=rp_ok hlt ht
      have hq:1≤rpQ out n:=by rw[q1];omega
      obtain⟨fuel,hfu⟩:=ih (n+rpQ out n) (rpS out n) (by omega) (by omega) (by omega) (by omega) q3
      refine⟨fuel+1, ?_⟩
      rw[step871,lt_dec hlt,decide_eq_true (show(0:Int)≤n by omega),decide_eq_true (show(out.length:Int)≤out.length by omega),decide_eq_true (show(n:Int)≤out.length by omega),wrap64 (n:=(n:Int)+(rpQ out n:Nat)) (by omega) (by omega)]
      exact hfu
     ·rw[List.take_length]at ht
      refine⟨1, ?_⟩
      rw[step871,nlt_dec]
      rw[←hl,←ht]at e
      exact e
   refine key (o0.length+1) (min 1 o0.length) o0 (by omega) (by omega) (by omega) rfl ?_
   cases o0 with
   |nil=>rfl
   |cons a l=>
    have:min 1 (a::l).length=1:=by simp
    rw[this];rfl
 ·cases e
@[reducible] def R2:List AK:=[.v (.sl Value),.v I]
def mk871 (v:Value.D) (n:Int):List Value.D:=List.take (List.replicate (IntKind.i64.wrap (IntKind.u64.wrap n)).toNat (Value:Ty).dflt).length [v]++List.drop [v].length (List.replicate (IntKind.i64.wrap (IntKind.u64.wrap n)).toNat (Value:Ty).dflt)
def mn871 (v:Value.D) (n:Int):Int:=(([v].length.min (List.replicate (IntKind.i64.wrap (IntKind.u64.wrap n)).toNat (Value:Ty).dflt).length:Nat):Int)
def rVs (l:List Value.D):AV:= .one (.sl true Value none l)
theorem r871 (v:Value.D) (n:Int):run Γ871 Λ871 [(0,live871)] F871 (encA R2 ([v],n)) [.sl true Value]=
 bif decide (n<0)then none else bif okM (IntKind.u64.wrap ([v].length:Nat),IntKind.u64.wrap n)then bif (bif decide ((0:Int)>0)then true else decide (IntKind.u64.wrap n>9223372036854775807))then none else
  bif decide (0≤IntKind.i64.wrap (IntKind.u64.wrap n))&&decide (IntKind.i64.wrap (IntKind.u64.wrap n)≤IntKind.i64.wrap (IntKind.u64.wrap n))&&decide ((64:Int)*IntKind.i64.wrap (IntKind.u64.wrap n)≤281474976710656)then
   bif g871 (mk871 v n) (mn871 v n)then some (rVs (List.replicate (mk871 v n).length (va0 (mk871 v n))))else none else none else none:=by kernel_rfl
def s871:Sp:= .fn R2 fun x=>match x.1 with
 |[v]=>(decide ((0:Int)≤x.2)&&decide ((x.2:Int)≤1000000),rVs (List.replicate x.2.toNat v))
 |_=>(false,AV.junk)
theorem g871s:GoodS Tryz.prog N871 s871:=by
 refine good (.cons g934 (.nil _)) H871 rfl (by kernel_rfl) Λ871 [(0,live871)] (oneLoop (p0:=loop1 F871) (by kernel_rfl) loop871) R2 (by decide) [.sl true Value] _ fun x r hw e=> ?_
 obtain⟨l,(n:Int)⟩:=x
 simp only at e
 split at e
 ·rename_i v
  simp only[Prod.mk.injEq,Bool.and_eq_true,decide_eq_true_eq]at e
  obtain⟨⟨e1,e2⟩,rfl⟩:=e
  have e1: @LE.le Int _ 0 n:=e1
  have e2: @LE.le Int _ n 1000000:=e2
  refine(r871 v n).trans ?_
  have w1:IntKind.u64.wrap n=n:=wrapU (by omega) (by omega)
  have w2:IntKind.i64.wrap n=n:=wrap64 (by omega) (by omega)
  have hk:okM (IntKind.u64.wrap ([v].length:Nat),n)=true:=by
   unfold okM
   have:IntKind.u64.wrap (([v].length:Nat):Int)=1:=by rw[show [v].length=1 from rfl];decide
   simp only[this,Bool.and_eq_true,decide_eq_true_eq]
   exact⟨trivial,e1,by omega⟩
  obtain⟨c,rfl⟩:=Int.eq_ofNat_of_zero_le e1
  have hm:mk871 v c=(List.replicate c v).take 1++List.replicate (c-1) (Value:Ty).dflt:=by
   unfold mk871
   rw[w1,w2,Int.toNat_natCast,List.length_replicate,List.drop_replicate]
   cases c with
   |zero=>rfl
   |succ c=>simp [List.replicate_succ]
  have hl:(mk871 v c).length=c:=by
   rw[hm,List.length_append,List.length_take,List.length_replicate,List.length_replicate];omega
  have hn:mn871 v c=((min 1 c:Nat):Int):=by
   unfold mn871
   rw[w1,w2,Int.toNat_natCast,List.length_replicate];rfl
  have hg:g871 (mk871 v c) (mn871 v c)=true:=by
   unfold g871
   rw[hl,hn]
   simp only[Bool.and_eq_true,decide_eq_true_eq]
   exact⟨trivial,by omega⟩
  rw[w1,w2,hk,hg,hl,decide_eq_false (show ¬(c:Int)<0 by omega),decide_eq_false (show ¬(c:Int)>9223372036854775807 by omega),decide_eq_true (show(0:Int)≤c by omega),decide_eq_true (show(c:Int)≤c by omega),decide_eq_true (show(64:Int)*c≤281474976710656 by omega)]
  have hv:List.replicate c (va0 (mk871 v c))=List.replicate c v:=by
   cases c with
   |zero=>rfl
   |succ c=>rw[hm];rfl
  rw[hv,Int.toNat_natCast]
  rfl
 ·cases e
def Γ826:Orc:=orc [(N322,s322),(N871,s871),(N824,s824)]
@[reducible] def D6:List AK:=[.v (.sl Term),.v I,.v I,.v Value,.v (.sl U),.v Value]
theorem r826 (l:List Term.D) (h k:Int) (m:Value.D) (u:List Int) (w:Value.D):run Γ826 noL [] F826 (encA D6 (l,h,k,m,u,w)) [.sl true Part,.sl true Term,.id]=
 bif (coverI h k u).2 != 0 then some (rPt ([],[],(coverI h k u).2))else bif decide ((0:Int)≤(coverI h k u).1.length)&&decide (((coverI h k u).1.length :Int)≤1000000)then
  bif decide (l.length≤1000000)&&decide ((coverI h k u).1.length ≤1000000)then some (rPt (someV l h k m (coverI h k u).1 (List.replicate ((coverI h k u).1.length :Int).toNat w)))else none else none:=by kernel_rfl
def sendV (l:List Term.D) (h k:Int) (m:Value.D) (u:List Int) (w:Value.D):List Part.D×List Term.D×Int:=
 bif (coverI h k u).2 != 0 then([],[],(coverI h k u).2)else someV l h k m (coverI h k u).1 (List.replicate (coverI h k u).1.length w)
theorem coverI_len {h k:Int} {u:List Int} (hu: ∀x∈u,IntKind.u64.has x):(coverI h k u).1.length ≤1000000:=by
 rcases Classical.em ((coverI h k u).2=0)with he|he
 ·have hs:schE h k=0:=by
   unfold coverI at he
   cases h1:schE h k != 0 with
   |true=>rw[h1]at he;exact he
   |false=>simpa using h1
  have hl:lokB h u=true:=by
   cases h1:lokB h u with
   |true=>rfl
   |false=>exact absurd he (cover_err hs h1)
  have:=(cover_law hs hl hu).2.len
  omega
 ·unfold coverI at he⊢
  have b1:=hang_len h u
  have b2:=diff_len (a:=h) hu
  cases h1:schE h k != 0 with
  |true=>exact Nat.zero_le _
  |false=>
   rw[h1]at he
   simp only[cond_false]at he⊢
   cases h2:k==1 with
   |true=>simp only[cond_true];unfold wholeS;rw[List.length_map];omega
   |false=>
    rw[h2]at he
    simp only[cond_false]at he⊢
    cases h3:(bif (diffI h u).2 != 0 then true else k==2)with
    |true=>simp only[cond_true];omega
    |false=>
     rw[h3]at he
     simp only[cond_false]at he⊢
     cases h4:partsI h (diffI h u).1 []with
     |none=>exact Nat.zero_le _
     |some o=>rw[h4]at he;exact absurd rfl he
def s826:Sp:= .fn D6 fun x=>(decide (x.1.length ≤1000000),rPt (sendV x.1 x.2.1 x.2.2.1 x.2.2.2.1 x.2.2.2.2.1 x.2.2.2.2.2))
theorem g826:GoodS Tryz.prog N826 s826:=by
 refine good (.cons g322 (.cons g871s (.cons g824s (.nil _)))) H826 rfl (by kernel_rfl) noL [] (noLoops (by kernel_rfl)) D6 (by decide) [.sl true Part,.sl true Term,.id] _ fun x r hw e=> ?_
 obtain⟨l,h,k,m,u,w⟩:=x
 simp only[Prod.mk.injEq,decide_eq_true_eq]at e
 obtain⟨e1,rfl⟩:=e
 refine(r826 l h k m u w).trans ?_
 have hu: ∀x∈u,IntKind.u64.has x:=hw.2.2.2.2.1.2
 have hl:=coverI_len (h:=h) (k:=k) hu
 unfold sendV
 rw[decide_eq_true e1,decide_eq_true hl,decide_eq_true (show(0:Int)≤(coverI h k u).1.length by omega),decide_eq_true (show((coverI h k u).1.length :Int)≤1000000 by omega),Int.toNat_natCast]
 cases (coverI h k u).2 != 0<;>rfl
def pAt (ps:List Part.D) (i:Int):Part.D:=ps.getD i.toNat (Part:Ty).dflt
@[reducible] def HeadT:Ty:= .pair I (.pair I (.pair I (.pair (.sl Part) Value)))
def wHead:WK:= .cells [(3,true,Part)]
def Γ854:Orc:=orc [(N892,s892),(N20,s20),(N826,s826),(N17,s17)]
def zeroH:HeadT.D:=(0,0,0,[],zeroV)
def seP (x:HeadT.D) (key:Value.D) (e:Int):AV:= .tup [(true,enc HeadT true x),(true,enc Value true key),(false,[.int .i64 e])]
def setE (c:CenT.D):CenT.D:=(c.1,c.2.1,c.2.2.1,c.2.2.2.1,c.2.2.2.2.1,IntKind.i64.wrap (cE c+1),c.2.2.2.2.2.2)
def setL (c:CenT.D) (l:List Term.D):CenT.D:=setAL c (cA c) l
def txt (c:CenT.D) (n:Int) (b:Block.D):WS:=atomV (cL c) (cY c) n b
def pts (c:CenT.D) (key:Value.D) (n:Int) (b:Block.D):List Part.D×List Term.D×Int:=sendV (txt c n b).2.1 (cH c) (cK c) (cM c) (rL (cR c)) key
def wrp (c:CenT.D) (key:Value.D) (n:Int) (b:Block.D):WS:=wrapV (pts c key n b).2.1 key (txt c n b).1
def hdr (c:CenT.D) (ps:List Part.D) (v:Value.D):HeadT.D:=(cK c,cH c,cE c,ps,v)
noncomputable def A3 (x:AV×List AV):Option (AV×List AV):=allSame (List.replicate 3 (some x))
noncomputable def restS (c:CenT.D) (key:Value.D) (n:Int) (b:Block.D):Option (AV×List AV):=
 bif (txt c n b).2.2 != 0 then A3 (seP zeroH key (txt c n b).2.2,[.own (enc CenT false c)])else
 bif decide ((txt c n b).2.1.length ≤1000000)then
  bif (pts c key n b).2.2 != 0 then A3 (seP (hdr c (pts c key n b).1 zeroV) key (pts c key n b).2.2,[.own (enc CenT false c)])else
   A3 (seP (hdr c (pts c key n b).1 (wrp c key n b).1) key (wrp c key n b).2.2,[.own ((enc CenT false c).set 19 (.sl true Term none (wrp c key n b).2.1))])else none
def payN (c:CenT.D):Int:=bif cY c then IntKind.i64.wrap (524288+cE c)else 0
theorem r854 (c:CenT.D) (b:Block.D):runIO Γ854 noL2 1 [] F854 [.one (.ptr 114 0),encV Block b] [.own (enc CenT false c)] 1 [wHead,.id,.id]=
 bif inA (setE c)then bif (drawV (setE c)).1.2 != 0 then A3 (seP zeroH (drawV (setE c)).1.1 (drawV (setE c)).1.2,[.own (enc CenT false (drawV (setE c)).2)])else
  bif cY (drawV (setE c)).2 then restS (drawV (setE c)).2 (drawV (setE c)).1.1 (IntKind.i64.wrap (524288+cE (drawV (setE c)).2)) b else restS (drawV (setE c)).2 (drawV (setE c)).1.1 0 b else none:=by kernel_rfl
def restV (c:CenT.D) (key:Value.D) (n:Int) (b:Block.D):(HeadT.D×Value.D×Int)×CenT.D:=
 bif (txt c n b).2.2 != 0 then((zeroH,key,(txt c n b).2.2),c)else
 bif (pts c key n b).2.2 != 0 then((hdr c (pts c key n b).1 zeroV,key,(pts c key n b).2.2),c)else
 ((hdr c (pts c key n b).1 (wrp c key n b).1,key,(wrp c key n b).2.2),setL c (wrp c key n b).2.1)
def sendI (c:CenT.D) (b:Block.D):(HeadT.D×Value.D×Int)×CenT.D:=
 bif (drawV (setE c)).1.2 != 0 then((zeroH,(drawV (setE c)).1),(drawV (setE c)).2)else restV (drawV (setE c)).2 (drawV (setE c)).1.1 (payN (drawV (setE c)).2) b
def s854:Sp:=objSp CenT [.v Block] fun c b=>(inA (setE c),seP (sendI c b).1.1 (sendI c b).1.2.1 (sendI c b).1.2.2,(sendI c b).2)
theorem atomV_small {l:List Term.D} {y:Bool} {n:Int} {b:Block.D} (h:(atomV l y n b).2.2 =0):(atomV l y n b).2.1.length ≤65536:=by
 unfold atomV at h⊢
 cases y with
 |true=>
  obtain⟨i,r,e,_,hg,_⟩:=madeV_ok (show(madeV l (1,n,0)).2.2 =0 from h)
  show(madeV l (1,n,0)).2.1.length ≤65536
  rw[e]
  exact checkL_small (checkL_iff.2 hg)
 |false=>
  simp only[cond_false]at h⊢
  cases h1:checkL l != 0 with
  |true=>exact Nat.zero_le _
  |false=>exact checkL_small (by simpa using h1)
theorem A3_eq (x:AV×List AV):A3 x=some x:=by
 have h: ∀n,sameO x (List.replicate n (some x))=true:=by
  intro n
  induction n with
  |zero=>rfl
  |succ n ih=>
   show(Same.eq x x&&sameO x (List.replicate n (some x)))=true
   rw[ih,Bool.and_true]
   exact @decide_eq_true _ (Classical.propDecidable _) rfl
 show(bif sameO x (List.replicate 2 (some x))then some x else none)=some x
 rw[h 2];rfl
theorem restS_eq (c:CenT.D) (key:Value.D) (n:Int) (b:Block.D): ∃gs',restS c key n b=some (seP (restV c key n b).1.1 (restV c key n b).1.2.1 (restV c key n b).1.2.2,gs')∧renAs false some gs'=some [.own (enc CenT false (restV c key n b).2)]:=by
 unfold restS restV
 cases h1:(txt c n b).2.2 != 0 with
 |true=>exact⟨_,A3_eq _,rfl⟩
 |false=>
  have h1':(txt c n b).2.2 =0:=by simpa using h1
  have:=atomV_small (show(atomV (cL c) (cY c) n b).2.2 =0 from h1')
  have h2:(txt c n b).2.1.length ≤1000000:=by
   have:(txt c n b).2.1.length ≤65536:=this
   omega
  rw[decide_eq_true h2]
  simp only[cond_false,cond_true]
  cases h3:(pts c key n b).2.2 != 0 with
  |true=>exact⟨_,A3_eq _,rfl⟩
  |false=>exact⟨_,A3_eq _,rfl⟩
theorem g854:GoodS Tryz.prog N854 s854:=by
 refine goodObj (callable_of H854 (bd rfl) (by kernel_rfl)) fun c b hw _ e=> ?_
 have key: ∀ {r:AV} {gs':List AV},runIO Γ854 noL2 1 [] F854 [.one (.ptr 114 0),encV Block b] [.own (enc CenT false c)] 1 [wHead,.id,.id]=some (r,gs')→GoodIO Tryz.prog N854 [.one (.ptr 0 0),encV Block b] 1 [.own (enc CenT false c)] r gs':=fun h=>
  goodIO1 (.cons g892 (.cons g20 (.cons g826 (.cons g17 (.nil _))))) H854 rfl noL2 1 [] (noLoops2 (by kernel_rfl)) [.one (.ptr 0 0),encV Block b] [.own (enc CenT false c)] 1 rfl rfl rfl (Nat.le_refl _) (by show 2≤114;decide) (Nat.le_refl _) [wHead,.id,.id] h
 have e:inA (setE c)=true:=e
 show ∃gs',GoodIO Tryz.prog N854 [.one (.ptr 0 0),encV Block b] 1 [.own (enc CenT false c)] (seP (sendI c b).1.1 (sendI c b).1.2.1 (sendI c b).1.2.2) gs'∧renAs false some gs'=some [.own (enc CenT false (sendI c b).2)]
 have h0:=r854 c b
 rw[e]at h0
 unfold sendI
 cases h1:(drawV (setE c)).1.2 != 0 with
 |true=>rw[h1]at h0;exact⟨_,key (h0.trans (A3_eq _)),rfl⟩
 |false=>
  rw[h1]at h0
  simp only[cond_false,cond_true]at h0⊢
  unfold payN
  cases h2:cY (drawV (setE c)).2 with
  |true=>
   rw[h2]at h0
   obtain⟨gs',k1,k2⟩:=restS_eq (drawV (setE c)).2 (drawV (setE c)).1.1 (IntKind.i64.wrap (524288+cE (drawV (setE c)).2)) b
   exact⟨gs',key (h0.trans k1),k2⟩
  |false=>
   rw[h2]at h0
   obtain⟨gs',k1,k2⟩:=restS_eq (drawV (setE c)).2 (drawV (setE c)).1.1 0 b
   exact⟨gs',key (h0.trans k1),k2⟩
def zH0:List SV:=(enc HeadT true zeroH).set 3 .nils
def zV0:List SV:=enc Value true zeroV
def zC0:List SV:=(((enc CenT true zeroC).set 14 .nils).set 17 .nils).set 19 .nils
def own4 (e:Int) (x:HeadT.D) (v:Value.D) (c:CenT.D):List AV:=[.own [.int .i64 e],.own (enc HeadT false x),.own (enc Value false v),.own (enc CenT false c)]
theorem dH0:decAll HeadT zH0=some (zeroH,true):=by kernel_rfl
theorem dV0:decAll Value zV0=some (zeroV,true):=by kernel_rfl
theorem dC0:decAll CenT zC0=some (zeroC,true):=by kernel_rfl
theorem post4 (e:Int):All2 OwnLe [.own [.int .i64 e],.own zH0,.own zV0,.own zC0] (own4 e zeroH zeroV zeroC):=by
 unfold own4
 exact .cons (OwnLe.refl _) (.cons (OwnLe.dec dH0) (.cons (OwnLe.dec dV0) (.cons (OwnLe.dec dC0) .nil)))
theorem pre4 {e:Int} {ch cv cc:List SV} {x:HeadT.D} {v:Value.D} {c:CenT.D} {f1 f2 f3:Bool} (h1:decAll HeadT ch=some (x,f1)) (h2:decAll Value cv=some (v,f2)) (h3:decAll CenT cc=some (c,f3)):
 All2 OwnLe [.own [.int .i64 e],.own ch,.own cv,.own cc] (own4 e x v c):=by
 unfold own4
 exact .cons (OwnLe.refl _) (.cons (OwnLe.dec h1) (.cons (OwnLe.dec h2) (.cons (OwnLe.dec h3) .nil)))
theorem r851 (e:Int) (x:HeadT.D) (v:Value.D) (c:CenT.D):runIO (orc []) noL2 4 [] F851 [.one (.ptr 9 0),.one (.ptr 10 0),.one (.ptr 11 0),.one (.ptr 12 0)] (own4 e x v c) 4 []=
 bif e != 0 then some (.tup [],[.own [.int .i64 e],.own zH0,.own zV0,.own zC0])else some (.tup [],own4 e x v c):=by kernel_rfl
def zIf {t:Ty} (e:Int) (z x:t.D):t.D:=bif e != 0 then z else x
def d851:List AV→Nat→List AV→Option (Bool×AV×List AV):=fun a p gs=>match a,p,gs with
 |[.one (.ptr 0 0),.one (.ptr 1 0),.one (.ptr 2 0),.one (.ptr 3 0)],4,[.own [.int .i64 e],.own ch,.own cv,.own cc]=>
  (match decAll HeadT ch,decAll Value cv,decAll CenT cc with
  |some (x,_),some (v,_),some (c,_)=>some (true,.tup [],own4 e (zIf (t:=HeadT) e zeroH x) (zIf (t:=Value) e zeroV v) (zIf (t:=CenT) e zeroC c))
  |_,_,_=>none)
 |_,_,_=>none
def Γd:Orc:=⟨fun _ _=>none,fun f a p gs=>bif Nat.beq N851 f then d851 a p gs else none,fun f=>Nat.beq N851 f,none,fun _ _=>false,false,false⟩
theorem key851 {e:Int} {x:HeadT.D} {v:Value.D} {c:CenT.D} {r:AV} {gs':List AV} (h:runIO (orc []) noL2 4 [] F851 [.one (.ptr 9 0),.one (.ptr 10 0),.one (.ptr 11 0),.one (.ptr 12 0)] (own4 e x v c) 4 []=some (r,gs')):
 GoodE (CallsR Tryz.prog N851) [.one (.ptr 0 0),.one (.ptr 1 0),.one (.ptr 2 0),.one (.ptr 3 0)] 4 (own4 e x v c) r gs':=
 goodD_ofIO mixed tbOk (.nil _) H851 (bd rfl) rfl rfl _ (own4 e x v c) 4 rfl rfl rfl (Nat.le_refl _) (by show 4≤9;decide) ⟨F851.ntmps,4,[]⟩ rfl (Nat.le_refl _) noL2 (noLoops2 (by kernel_rfl)) [] h
theorem zIf_t {t:Ty} {e:Int} {z y:t.D} (h:(e != 0)=true):zIf e z y=z:=by unfold zIf;rw[h];rfl
theorem zIf_f {t:Ty} {e:Int} {z y:t.D} (h:(e != 0)=false):zIf e z y=y:=by unfold zIf;rw[h];rfl
theorem good851 (e:Int) (x:HeadT.D) (v:Value.D) (c:CenT.D):GoodE (CallsR Tryz.prog N851) [.one (.ptr 0 0),.one (.ptr 1 0),.one (.ptr 2 0),.one (.ptr 3 0)] 4 (own4 e x v c) (.tup []) (own4 e (zIf (t:=HeadT) e zeroH x) (zIf (t:=Value) e zeroV v) (zIf (t:=CenT) e zeroC c)):=by
 have h0:=r851 e x v c
 cases hz:e != 0 with
 |false=>
  rw[hz]at h0
  rw[zIf_f (t:=HeadT) hz,zIf_f (t:=Value) hz,zIf_f (t:=CenT) hz]
  exact key851 h0
 |true=>
  rw[hz]at h0
  rw[zIf_t (t:=HeadT) hz,zIf_t (t:=Value) hz,zIf_t (t:=CenT) hz]
  have h1:runIO (orc []) noL2 4 [] F851 [.one (.ptr 9 0),.one (.ptr 10 0),.one (.ptr 11 0),.one (.ptr 12 0)] (own4 e x v c) 4 []=some (.tup [],[.own [.int .i64 e],.own zH0,.own zV0,.own zC0]):=h0
  have h2:=key851 h1
  clear h0 h1
  have h3:=post4 e
  generalize own4 e zeroH zeroV zeroC=g at*
  exact GoodE.post (E:=CallsR Tryz.prog N851) (fun h hr=>CallsR.mono h hr) h3 h2
theorem g851: ∀f xs p gs r gs',Γd.io f xs p gs=some (true,r,gs')→Callable Tryz.prog f∧GoodE (CallsR Tryz.prog f) xs p gs r gs':=by
 intro f xs p gs r gs' h
 have hf:Nat.beq N851 f=true:=by
  cases hb:Nat.beq N851 f with
  |true=>rfl
  |false=>
   have h:(bif Nat.beq N851 f then d851 xs p gs else none)=some (true,r,gs'):=h
   rw[hb]at h;cases h
 have h:(bif Nat.beq N851 f then d851 xs p gs else none)=some (true,r,gs'):=h
 rw[hf]at h
 have h9:d851 xs p gs=some (true,r,gs'):=h
 obtain rfl:N851=f:=Nat.eq_of_beq_eq_true hf
 refine⟨callable_of H851 (bd rfl) (by kernel_rfl), ?_⟩
 clear h
 unfold d851 at h9
 split at h9
 ·rename_i e ch cv cc
  split at h9
  ·rename_i x f1 v f2 c f3 h1 h2 h3
   simp only[Option.some.injEq,Prod.mk.injEq,true_and]at h9
   obtain⟨rfl,rfl⟩:=h9
   exact GoodE.pre (pre4 h1 h2 h3) (good851 e x v c)
  ·cases h9
 ·cases h9
def dfr0:Code→Code
 | .seq c0 _=>c0
 |_=> .skip
def dfr2:Code→Code
 | .seq _ (.seq _ c2)=>c2
 |_=> .skip
def dfrI:Code→Nat
 | .seq _ (.seq (.region id _ _) _)=>id
 |_=>0
def dfrO (k:Nat):Code→Oper
 | .seq _ (.seq (.region _ ops _) _)=>ops.toList.getD k default
 |_=>default
noncomputable abbrev b817:Code:=body F817
def Γ817:Orc:=orc [(N839,s839),(N852,s852),(N853,s853),(N854,s854)]
def as817 (c:CenT.D) (b:Block.D):List AV:=[.agg (enc CenT false c),encV Block b,.one (.ptr 0 0),.one (.ptr 1 0),.one (.ptr 2 0),.one (.ptr 3 0),.one (.ptr 4 0),.one (.ptr 5 0),.one (.fn N851 [.ref 5 0,.ref 2 0,.ref 3 0,.ref 4 0])]
def gs817 (c:CenT.D) (b:Block.D):List AV:=[.own (enc CenT false c),.own (enc Block false b),.own zH0,.own zV0,.own zC0,.own [.int .i64 0]]
theorem hb817:F817.body=some ((dfr0 b817).seq ((Code.region (dfrI b817) #[dfrO 0 b817,dfrO 1 b817] false).seq (dfr2 b817))):=by kernel_rfl
noncomputable def noLp:Lam (List AV×List AV):=fun _ _ _=>none
theorem pre817 (c:CenT.D) (b:Block.D):aexec tb Γ817 noLp ⟨38,6,[]⟩ (dfr0 b817) 0 (st0 [.agg (enc CenT false c),encV Block b] 38) (Kp tb Γ817 [dfrO 0 b817,dfrO 1 b817] 9 [2,3,4,5,6,7] (dfrO 0 b817))=some (as817 c b,gs817 c b):=by kernel_rfl
def ys817 (c:CenT.D) (b:Block.D):List AV:=[.agg (enc CenT false c),encV Block b,.one (.ptr 38 0),.one (.ptr 39 0),.one (.ptr 40 0),.one (.ptr 41 0),.one (.ptr 42 0),.one (.ptr 43 0),.one (.fn N851 [.ref 43 0,.ref 40 0,.ref 41 0,.ref 42 0])]
noncomputable def run817 (c:CenT.D) (b:Block.D):Option (AV×List AV):=aexec tb Γ817 noL2 ⟨38,6,[]⟩ (dfr2 b817) 0 (st0 (ys817 c b) 38++(gs817 c b).map fun o=> .gho o.ov) (Kd tb Γd 38 6 F817.results.toList [wHead,.id,wCen,.id] 8 (.fn N851 [.ref 43 0,.ref 40 0,.ref 41 0,.ref 42 0]))
def scP (x:HeadT.D) (v:Value.D) (n:CenT.D) (e:Int):AV:= .tup [(true,enc HeadT true x),(true,enc Value true v),(true,enc CenT true n),(false,[.int .i64 e])]
def res817 (c:CenT.D) (b:Block.D) (x:HeadT.D) (v:Value.D) (n:CenT.D) (e:Int):AV×List AV:=
 (scP x v n e,[.own (enc CenT false c),.own (enc Block false b),.own (enc HeadT true x),.own (enc Value true v),.own (enc CenT true n),.own [.int .i64 e]])
noncomputable def AS (n:Nat) (x:AV×List AV):Option (AV×List AV):=allSame (List.replicate n (some x))
theorem AS_eq (n:Nat) (x:AV×List AV):AS (n+1) x=some x:=by
 have h: ∀n,sameO x (List.replicate n (some x))=true:=by
  intro n
  induction n with
  |zero=>rfl
  |succ n ih=>
   show(Same.eq x x&&sameO x (List.replicate n (some x)))=true
   rw[ih,Bool.and_true]
   exact @decide_eq_true _ (Classical.propDecidable _) rfl
 show(bif sameO x (List.replicate n (some x))then some x else none)=some x
 rw[h n];rfl
theorem rest817 (c:CenT.D) (b:Block.D):run817 c b=bif small24 (cL c).length then
 bif chkC c != 0 then AS 105 (res817 c b (zIf (t:=HeadT) (chkC c) zeroH zeroH) (zIf (t:=Value) (chkC c) zeroV zeroV) (zIf (t:=CenT) (chkC c) zeroC zeroC) (chkC c))else
 bif cE c==lastI (cY c)then AS 15 (res817 c b zeroH zeroV zeroC 9)else bif cenS c then bif inA (setE c)then
  AS 105 (res817 c b (zIf (t:=HeadT) (sendI c b).1.2.2 zeroH (sendI c b).1.1) (zIf (t:=Value) (sendI c b).1.2.2 zeroV (sendI c b).1.2.1) (zIf (t:=CenT) (sendI c b).1.2.2 zeroC (sendI c b).2) (sendI c b).1.2.2)else none else none else none:=by kernel_rfl
def sendC (c:CenT.D) (b:Block.D):HeadT.D×Value.D×CenT.D×Int:=
 bif chkC c != 0 then(zeroH,zeroV,zeroC,chkC c)else bif cE c==lastI (cY c)then(zeroH,zeroV,zeroC,9)else
 bif (sendI c b).1.2.2 != 0 then(zeroH,zeroV,zeroC,(sendI c b).1.2.2)else((sendI c b).1.1,(sendI c b).1.2.1,(sendI c b).2,0)
theorem walk0 {l:List Term.D} {v:Value.D} (h:(walkV l v []).2.2 =0):startE l v=0:=by
 unfold walkV noWalk at h
 cases h1:startE l v != 0 with
 |true=>rw[h1]at h;cases h
 |false=>simpa using h1
theorem start_len {l:List Term.D} {v:Value.D} (h:startE l v=0):l.length≤65536:=by
 unfold startE at h
 cases h1:b51 l v with
 |true=>rw[h1]at h;cases h
 |false=>rw[h1]at h;exact checkL_small (checkV_zero.1 h).1
theorem roll_ok {r:RollT.D} (h:rollE r=0):((r.2.2.1.length :Int)≤r.2.1 ∧r.2.1 ≤1024∧0≤r.2.2.2 ∧r.2.2.2 ≤1099511627776)∧lokB r.1 r.2.2.1 =true:=by
 unfold rollE at h
 cases h1:rollB r with
 |true=>rw[h1]at h;cases h
 |false=>
  rw[h1]at h
  unfold rollB at h1
  have hl:lokB r.1 r.2.2.1 =true:=by
   have h:lchkI r.1 r.2.2.1 =0:=h
   unfold lchkI at h
   cases h2:lokB r.1 r.2.2.1 with
   |true=>rfl
   |false=>rw[h2]at h;cases h
  refine⟨?_,hl⟩
  cases h2:decide (r.2.1 <(r.2.2.1.length :Int))with
  |true=>rw[h2]at h1;cases h1
  |false=>
  cases h3:decide (r.2.1 >1024)with
  |true=>rw[h2,h3]at h1;cases h1
  |false=>
  cases h4:decide (r.2.2.2 <0)with
  |true=>rw[h2,h3,h4]at h1;cases h1
  |false=>
  cases h5:decide (r.2.2.2 >1099511627776)with
  |true=>rw[h2,h3,h4,h5]at h1;cases h1
  |false=>
   have h2:=of_decide_eq_false h2
   have h3:=of_decide_eq_false h3
   have h4:=of_decide_eq_false h4
   have h5:=of_decide_eq_false h5
   exact⟨Int.not_lt.1 h2,Int.not_lt.1 h3,Int.not_lt.1 h4,Int.not_lt.1 h5⟩
structure ChkOk (c:CenT.D):Prop where
 may:(mayI (cH c) (cK c) (1,0)).2=0
 start:startE (cL c) (cM c)=0
 walk:(walkV (cL c) (cM c) []).2.2 =0
 kind:(cM c).1=cY c
 roll:rollE (cR c)=0
 high:(cR c).1=cH c
 ep0:0≤cE c
 ep1:cE c≤lastI (cY c)
 draws:(cD c).length≤4096
 at0:1≤cA c
 at1:cA c≤(cD c).length
theorem chk_ok {c:CenT.D} (h:chkC c=0):ChkOk c:=by
 unfold chkC at h
 cases h1:chkB c with
 |true=>rw[h1]at h;cases h
 |false=>
 cases h2:decide (cE c<0)with
 |true=>rw[h1,h2]at h;cases h
 |false=>
 cases h3:decide (cE c>lastI (cY c))with
 |true=>rw[h1,h2,h3]at h;cases h
 |false=>
 cases h4:decide (((cD c).length:Int)>4096)with
 |true=>rw[h1,h2,h3,h4]at h;cases h
 |false=>
 cases h5:decide (cA c<1)with
 |true=>rw[h1,h2,h3,h4,h5]at h;cases h
 |false=>
 cases h6:decide (cA c>((cD c).length:Int))with
 |true=>rw[h1,h2,h3,h4,h5,h6]at h;cases h
 |false=>
 have h2:=of_decide_eq_false h2
 have h3:=of_decide_eq_false h3
 have h4:=of_decide_eq_false h4
 have h5:=of_decide_eq_false h5
 have h6:=of_decide_eq_false h6
 unfold chkB at h1
 cases g1:(mayI (cH c) (cK c) (1,0)).2 != 0 with
 |true=>rw[g1]at h1;cases h1
 |false=>
 cases g2:(walkV (cL c) (cM c) []).2.2 != 0 with
 |true=>rw[g1,g2]at h1;cases h1
 |false=>
 cases g3: !(cM c).1==cY c with
 |true=>rw[g1,g2,g3]at h1;cases h1
 |false=>
 cases g4:rollE (cR c) != 0 with
 |true=>rw[g1,g2,g3,g4]at h1;cases h1
 |false=>
 rw[g1,g2,g3,g4]at h1
 have g2:(walkV (cL c) (cM c) []).2.2 =0:=by simpa using g2
 exact⟨by simpa using g1,walk0 g2,g2,by simpa using g3,by simpa using g4,by simpa using h1,Int.not_lt.1 h2,Int.not_lt.1 h3,by omega,by omega,by omega⟩
theorem ChkOk.len {c:CenT.D} (h:ChkOk c):(rL (cR c)).length≤1024∧(cL c).length≤65536:=by
 obtain⟨⟨a,b,_⟩,_⟩:=roll_ok h.roll
 have h9:((cR c).2.2.1.length :Int)≤1024:=Int.le_trans a b
 exact⟨by show(cR c).2.2.1.length ≤1024;omega,start_len h.start⟩
theorem ChkOk.cenS {c:CenT.D} (h:ChkOk c):cenS c=true:=by
 obtain⟨a,b⟩:=h.len
 have:=h.draws
 unfold Seat.cenS
 rw[decide_eq_true (show(rL (cR c)).length≤1000000 by omega),decide_eq_true (show(cD c).length≤1000000 by omega),small_of b];rfl
theorem inA_of {c:CenT.D} (h0:0≤cA c) (h1:cA c≤(cD c).length):inA c=true:=by
 unfold inA
 cases h2:cA c==((cD c).length:Int)with
 |true=>rfl
 |false=>
  have h2: ¬cA c=((cD c).length:Int):=by simpa using h2
  obtain⟨q,hq⟩:=Int.eq_ofNat_of_zero_le h0
  rw[hq]at h1 h2⊢
  exact inB_lt (by omega)
theorem ChkOk.inA {c:CenT.D} (h:ChkOk c):inA (setE c)=true:=inA_of (c:=setE c) (by have:=h.at0;show 0≤cA c;omega) h.at1
def s817:Sp:= .fn [.v CenT,.v Block] fun x=>(small24 (cL x.1).length,scP (sendC x.1 x.2).1 (sendC x.1 x.2).2.1 (sendC x.1 x.2).2.2.1 (sendC x.1 x.2).2.2.2)
theorem Γ817ok:OrcOk Tryz.prog Γ817:= .cons g839 (.cons g852 (.cons g853 (.cons g854 (.nil _))))
theorem run817_eq (c:CenT.D) (b:Block.D) (hs:small24 (cL c).length=true): ∃gs',run817 c b=some (scP (sendC c b).1 (sendC c b).2.1 (sendC c b).2.2.1 (sendC c b).2.2.2,gs'):=by
 rw[rest817,hs]
 unfold sendC
 simp only[cond_true]
 cases h1:chkC c != 0 with
 |true=>
  rw[zIf_t (t:=HeadT) h1,zIf_t (t:=Value) h1,zIf_t (t:=CenT) h1]
  exact⟨_,AS_eq 104 _⟩
 |false=>
  have hk:=chk_ok (c:=c) (by simpa using h1)
  simp only[cond_false]
  cases cE c==lastI (cY c)with
  |true=>exact⟨_,AS_eq 14 _⟩
  |false=>
   rw[hk.cenS,hk.inA]
   simp only[cond_false,cond_true]
   cases h2:(sendI c b).1.2.2 != 0 with
   |true=>
    rw[zIf_t (t:=HeadT) h2,zIf_t (t:=Value) h2,zIf_t (t:=CenT) h2]
    exact⟨_,AS_eq 104 _⟩
   |false=>
    rw[zIf_f (t:=HeadT) h2,zIf_f (t:=Value) h2,zIf_f (t:=CenT) h2]
    have h2:(sendI c b).1.2.2 =0:=by simpa using h2
    rw[h2]
    exact⟨_,AS_eq 104 _⟩
theorem g817:GoodS Tryz.prog N817 s817:=by
 refine GoodS.fn (callable_of H817 (bd rfl) (by kernel_rfl)) fun x r hw e=> ?_
 obtain⟨c,b⟩:=x
 simp only[Prod.mk.injEq]at e
 obtain⟨e1,rfl⟩:=e
 obtain⟨gs',h1⟩:=run817_eq c b e1
 have hrest:GoodE (RestE Tryz.prog F817 (dfr2 b817) 8) (as817 c b) 6 (gs817 c b) (scP (sendC c b).1 (sendC c b).2.1 (sendC c b).2.2.1 (sendC c b).2.2.2) gs':=
  good_rest mixed tbOk Γ817ok g851 rfl (fn:=F817) (n:=38) (cur:=0) rfl rfl (by kernel_rfl) (by decide) (as817 c b) (gs817 c b) 6 (ys:=ys817 c b) (hs:=gs817 c b) rfl rfl rfl (by show 6≤6;decide) (by show 9≤38;decide) (by show 8<9;decide) ⟨38,6,[]⟩ rfl (by show 6≤6;decide) noL2 (noLoops2 (by kernel_rfl)) [wHead,.id,wCen,.id]
   (g0:=N851) (caps:=[.ref 43 0,.ref 40 0,.ref 41 0,.ref 42 0]) rfl rfl h1
 exact good_defer mixed tbOk Γ817ok H817 hb817 (n:=38) (k:=8) rfl (by kernel_rfl) rfl rfl (by decide) [.agg (enc CenT false c),encV Block b] rfl (by show 2≤38;decide) ⟨38,6,[]⟩ rfl noLp (by
  have:loopsOf 0 (dfr0 b817)=[]:=by kernel_rfl
  rw[this];intro p hp;cases hp) [2,3,4,5,6,7] 9 (by decide) (by decide) (pre817 c b) (g:=N851) (caps:=[.ref 5 0,.ref 2 0,.ref 3 0,.ref 4 0]) rfl 6 hrest rfl
theorem mayB_five {u t n:Int} (u0:0≤u) (u1:u<n) (t0:0≤t) (t1:t<n):mayB (5,u,t) n=true:=by
 unfold mayB mayBad partsL badP
 simp
 omega
def Opens (sym:Bool) (l:List Term.D) (key w x:Value.D):Prop:=
 match sym with
 |true=> ∃u t i:Nat,key=symV u∧w=symV t∧l[i]? =some (5,(u:Int),(t:Int))∧x=symV i
 |false=> ∃bk bw:Block.D,key=octV bk∧w=octV bw∧WF Block bw∧x=sealV (wrapB bk bw)
section
variable {sym:Bool} {b b':Block.D} {t0 t0':Nat} {l:List Term.D} {m key w x:Value.D}
theorem Opens.mono (h:Opens sym l key w x) (r:List Term.D):Opens sym (l++r) key w x:=by
 cases sym with
 |true=>
  obtain⟨u,t,i,h1,h2,h3,h4⟩:=h
  have:=(List.getElem?_eq_some_iff.1 h3).1
  exact⟨u,t,i,h1,h2,by rw[List.getElem?_append_left this];exact h3,h4⟩
 |false=>exact h
theorem wrap_run {p:List Int} (hk:Den sym b t0 l p key) (hw:Den sym b' t0' l [] w) (hf:WF Value w) (hl:l.length<65536):
 ∃x r,wrapV l key w=(x,l++r,0)∧r.length≤1∧GoodL (l++r)∧Opens sym (l++r) key w x:=by
 obtain⟨f1,f2,f3,f4,_⟩:=hk.facts
 obtain⟨g1,g2,g3,g4,_⟩:=hw.facts
 have hz:isV l [false,false] [key,w]=0:=isV_two.2 ⟨f1,g1,f2,g2,by rw[g4,f4]⟩
 have hG:=hk.good
 unfold wrapV
 rw[hz,f4]
 simp only[bne_self_eq_false,cond_false]
 cases sym with
 |true=>
  obtain⟨u,rfl,hu⟩:=hk.std
  obtain⟨t,rfl,ht⟩:=hw.std
  obtain⟨x1,a1,_⟩:=hu.get hk.way
  obtain⟨x2,a2,_⟩:=ht.get hw.way
  have u1:=(List.getElem?_eq_some_iff.1 a1).1
  have t1:=(List.getElem?_eq_some_iff.1 a2).1
  have he:(madeV l (5,(u:Int),(t:Int))).2.2 =0:=madeV_may hG (mayB_five (by omega) (by omega) (by omega) (by omega)) hl
  obtain⟨i,r,m1,m2,m3,m4,m5⟩:=madeV_ok he
  have hlen:=madeV_len l (5,(u:Int),(t:Int))
  rw[m1]at hlen
  refine⟨symV i,r,m1,by simpa using hlen,m3,u,t,i,rfl,rfl,m4,rfl⟩
 |false=>
  obtain rfl:key=octV (foldW b p):=hk.std
  obtain rfl:w=octV (foldW b' []):=hw.std
  exact⟨_,[],by rw[List.append_nil];rfl,by simp,by rw[List.append_nil];exact hG,_,_,rfl,rfl,hf.2.2.1,rfl⟩
def Sent (sym:Bool) (b:Block.D) (t0:Nat) (l:List Term.D) (h k:Int) (c:List Subset.D) (v:List Value.D) (out:List Part.D) (n:Nat):Prop:=
 out.length=c.length∧ ∀q:Nat,q<n→ ∃key x,out.getD q (Part:Ty).dflt=(sAt c q,x)∧Den sym b t0 l (keyP h k (sAt c q)).reverse key∧Opens sym l key (vaT v q) x
theorem Sent.next {r:List Term.D} {h k:Int} {c:List Subset.D} {v:List Value.D} {out:List Part.D} {j:Nat} (hm:Sent sym b t0 l h k c v out j) (hj:j<c.length) (hd:Den sym b t0 (l++r) (keyP h k (sAt c j)).reverse key) (ho:Opens sym (l++r) key (vaT v j) x):
 Sent sym b t0 (l++r) h k c v (pS2 (pS1 out j (sAt c j)) j x) (j+1):=by
 obtain⟨h1,h2⟩:=hm
 refine⟨by rw[pS2_len,pS1_len];exact h1,fun q hq=> ?_⟩
 unfold pS2 pS1
 rw[Int.toNat_natCast]
 rcases Nat.lt_or_eq_of_le (Nat.le_of_lt_succ hq)with hlt|rfl
 ·obtain⟨key',x',e,hk',ho'⟩:=h2 q hlt
  refine⟨key',x', ?_,hk'.mono hd.good,ho'.mono r⟩
  rw[←e]
  simp only[List.getD_eq_getElem?_getD]
  rw[List.getElem?_set_ne (by omega),List.getElem?_set_ne (by omega)]
 ·refine⟨key,x, ?_,hd,ho⟩
  simp only[List.getD_eq_getElem?_getD]
  rw[List.getElem?_set_self (by rw[List.length_set];omega),List.getElem?_set_self (by omega)]
  rfl
theorem someR_run {h k:Int} {c:List Subset.D} {v:List Value.D} (hc: ∀s∈c,mayI h k s=(true,0)∧IntKind.u64.has s.1∧IntKind.u64.has s.2):
 ∀(n j:Nat) (l:List Term.D) (out:List Part.D),Den sym b t0 l [] m→(∀q:Nat,q<c.length→WF Value (vaT v q)∧ ∃bw tw,Den sym bw tw l [] (vaT v q))→l.length+n*(2*h.toNat+3)≤65536→j+n=c.length→Sent sym b t0 l h k c v out j→
 ∃r out',someR h k m c v n j l out=(false,l++r,out',0,j+n)∧r.length≤n*(2*h.toNat+3)∧GoodL (l++r)∧Sent sym b t0 (l++r) h k c v out' c.length:=by
 intro n
 induction n with
 |zero=>
  intro j l out hd hv hl hj hm
  refine⟨[],out,by rw[List.append_nil];rfl,Nat.zero_le _,by rw[List.append_nil];exact hd.good, ?_⟩
  rw[List.append_nil,←hj];exact hm
 |succ n ih=>
  intro j l out hd hv hl hj hm
  rw[Nat.succ_mul]at hl
  have hjc:j<c.length:=by omega
  have hs:sAt c j∈c:=by
   unfold sAt
   rw[Int.toNat_natCast,List.getD_eq_getElem?_getD,List.getElem?_eq_getElem hjc,Option.getD_some]
   exact List.getElem_mem hjc
  obtain⟨may,u1,u2⟩:=hc _ hs
  obtain⟨p0,p1,p2⟩:=path_root u1 u2 (may_sub may).1
  have hn:noKey l h k m (sAt c j)=false:=by
   unfold noKey
   rw[hd.startE,may];rfl
  obtain⟨key,r1,a1,a2,a3⟩:=keyV_run hd (by omega) hn p1 p2
  obtain⟨hwf,bw,tw,hw⟩:=hv j hjc
  obtain⟨x,r2,b1,b2,b3,b4⟩:=wrap_run a3 (hw.mono a3.good) hwf (by rw[List.length_append];omega)
  have hd2:=hd.mono (r:=r1++r2) (by rw[←List.append_assoc];exact b3)
  have e1:(l++r1)++r2=l++(r1++r2):=List.append_assoc ..
  rw[e1]at b1 b3 b4
  have a4:Den sym b t0 (l++(r1++r2)) (keyP h k (sAt c j)).reverse key:=by
   have:=a3.mono (r:=r2) (by rw[e1];exact b3)
   rw[e1]at this;exact this
  obtain⟨r3,out',c1,c2,c3,c4⟩:=ih (j+1) (l++(r1++r2)) (pS2 (pS1 out j (sAt c j)) j x) hd2 (fun q hq=>by
   obtain⟨w1,bq,tq,hq'⟩:=hv q hq
   exact⟨w1,bq,tq,hq'.mono b3⟩) (by rw[List.length_append,List.length_append];omega) (by omega) (hm.next hjc a4 b4)
  refine⟨r1++r2++r3,out', ?_,by rw[List.length_append,List.length_append,Nat.succ_mul];omega,by rw[←List.append_assoc];exact c3,by rw[←List.append_assoc];exact c4⟩
  rw[someR,a1]
  simp only[bne_self_eq_false,cond_false]
  rw[b1]
  simp only[bne_self_eq_false,cond_false]
  rw[c1,List.append_assoc,show j+1+n=j+(n+1) by omega]
end
theorem sub_zero {a:Int} {H i j:Nat} (ha:a=(H:Int)) (hs:okS H i j=true):subE a ((i:Int),(j:Int))=0∧IntKind.u64.has (i:Int)∧IntKind.u64.has (j:Int):=by
 obtain⟨k1,k2⟩:=okS_iff.1 hs
 obtain⟨h1,h2,h3,h4⟩:=okN_iff.1 k1
 have hp:=pow32 h2
 have hp1:2^(H+1)=2*2^H:=by rw[Nat.pow_succ];omega
 have u: ∀ {n:Nat},n<2^64→IntKind.u64.has (n:Int):=fun {n} hn=>⟨by show(0:Int)≤n;omega,by show(n:Int)≤18446744073709551615;omega⟩
 have hj:j<2^(H+1):=by
  rcases k2 with rfl|⟨h,_⟩
  ·exact Nat.two_pow_pos _
  ·exact(okN_iff.1 h).2.2.2
 refine⟨?_,u (by omega),u (by omega)⟩
 rw[subE_nat (u (by omega)) (u (by omega)),ha]
 simp only[Int.toNat_natCast]
 rw[hs];rfl
theorem CovOk.bad {a k:Int} {l:List Int} {c:List Subset.D} (h:CovOk a k l c) (h0:0≤a): ∀s∈c,badS a s=false:=fun s hs=>by
 obtain⟨i,j,rfl,o,_⟩:=h.ok s hs
 unfold badS
 rw[(sub_zero (a:=a) (H:=a.toNat) (by omega) o).1];rfl
theorem CovOk.has {a k x:Int} {l:List Int} {c:List Subset.D} (h:CovOk a k l c) (h0:0≤a) (hx:IntKind.u64.has x) (hl:leafOk a.toNat x.toNat=true): ∀s∈c,hasS a x s=hasN a.toNat s.1.toNat s.2.toNat x.toNat:=fun s hs=>by
 obtain⟨i,j,rfl,o,_⟩:=h.ok s hs
 obtain⟨_,u1,u2⟩:=sub_zero (a:=a) (H:=a.toNat) (by omega) o
 unfold hasS
 rw[has_nat (s:=((i:Int),(j:Int))) u1 u2 hx]
 simp only[Int.toNat_natCast]
 rw[o,hl];rfl
theorem CovOk.one {a k x:Int} {l:List Int} {c:List Subset.D} (h:CovOk a k l c) (h0:0≤a) (hx:IntKind.u64.has x) (hl:leafOk a.toNat x.toNat=true):c.countP (hasS a x)=if x∈l then 0 else 1:=by
 have h1:=h.cnt x.toNat (leafOk_iff.1 hl).2.2
 have e:((x.toNat:Nat):Int)=x:=(hasU hx).2.2.symm
 rw[e]at h1
 rw[←h1]
 exact List.countP_congr fun s hs=>by rw[h.has h0 hx hl s hs]
theorem cover_ok {h k:Int} {l:List Int} (hu: ∀y∈l,IntKind.u64.has y) (he:(coverI h k l).2=0):lokB h l=true∧schE h k=0∧CovOk h k l (coverI h k l).1∧1≤h∧h≤32:=by
 have hs:schE h k=0:=by
  unfold coverI at he
  cases h1:schE h k != 0 with
  |true=>rw[h1]at he;exact he
  |false=>simpa using h1
 have hl:lokB h l=true:=by
  cases h1:lokB h l with
  |true=>rfl
  |false=>exact absurd he (cover_err hs h1)
 obtain⟨_,h2,_⟩:=lok_len hl
 have:=highB_iff.1 (chk_zero h2).1
 exact⟨hl,hs,(cover_law hs hl hu).2,this.1,this.2⟩
theorem diff_len1 {a:Int} {l:List Int} (h:lokB a l=true) (hu: ∀x∈l,IntKind.u64.has x):(diffI a l).1.length ≤2*l.length+1:=by
 have s:=setN_of h hu
 obtain⟨S,hSS⟩: ∃S,S=l.map Int.toNat:=⟨_,rfl⟩
 rw[←hSS]at s
 have hSl:S.length=l.length:=by rw[hSS,List.length_map]
 have ho:okN a.toNat 1=true:=by rw[okN_one,decide_eq_true s.h1,decide_eq_true s.h2];rfl
 unfold diffI
 rw[s.below1 h]
 simp only[bne_self_eq_false,cond_false]
 cases hd:decide ((l.length:Int)>0)with
 |false=>simp
 |true=>
  have hlen:0<S.length:=by have:=of_decide_eq_true hd;omega
  simp only[Bool.not_true,cond_false]
  obtain⟨x,hx⟩:=List.exists_mem_of_length_pos hlen
  obtain⟨_,c,c1,c2⟩:=cut_run s h 40 1 ho (by have:=s.h2;omega) ⟨x,hx,abv_one leafN_ne⟩
  have c2:cutR a l 40 1 []=_:=c2 []
  rw[c2,List.nil_append]
  simp only[bne_self_eq_false,cond_false]
  rw[(sortQ_perm _).length_eq,List.length_map]
  have h1:=cut_len s.lt c1
  have h2:S.countP (fun i=>abv 1 (leafN a.toNat i))≤S.length:=List.countP_le_length
  omega
section
variable {sym:Bool} {b:Block.D} {t0:Nat} {l:List Term.D} {m:Value.D}
theorem Made.mono {h k:Int} {ps:List Subset.D} {es:List Entry.D} {n:Nat} (hm:Made sym b t0 l h k ps es n) {r:List Term.D} (hg:GoodL (l++r)):Made sym b t0 (l++r) h k ps es n:=
 ⟨hm.1,fun q hq=>by obtain⟨v,e,hv⟩:=hm.2 q hq;exact⟨v,e,hv.mono hg⟩⟩
theorem Den.oct {p:List Int} {v:Value.D} (h:Den false b t0 l p v) {l':List Term.D} (hg:GoodL l'):Den false b t0 l' p v:=⟨hg,h.way,h.std⟩
theorem Made.oct {h k:Int} {ps:List Subset.D} {es:List Entry.D} {n:Nat} (hm:Made false b t0 l h k ps es n) {l':List Term.D} (hg:GoodL l'):Made false b t0 l' h k ps es n:=
 ⟨hm.1,fun q hq=>by obtain⟨v,e,hv⟩:=hm.2 q hq;exact⟨v,e,hv.oct hg⟩⟩
theorem walk_nil (hd:Den sym b t0 l [] m):walkV l m []=(m,l,0):=by
 have hb:=hd.good.1
 obtain⟨v',r,a1,a2,a3⟩:=hd.walkV (sd:=[]) (fun x hx=>by cases hx) (by simp) (by simp;omega)
 have:r=[]:=by simpa using a2
 subst this
 rw[List.append_nil]at a1 a3
 rw[a1,←hd.uniq a3]
end
section
variable {sym:Bool} {b:Block.D} {t0:Nat} {l:List Term.D} {m:Value.D}
theorem CovOk.may {h k:Int} {u:List Int} {c:List Subset.D} (hc:CovOk h k u c) (h0:0≤h): ∀s∈c,mayI h k s=(true,0)∧IntKind.u64.has s.1∧IntKind.u64.has s.2:=fun s hs=>by
 obtain⟨i,j,rfl,o,hm⟩:=hc.ok s hs
 obtain⟨_,u1,u2⟩:=sub_zero (a:=h) (H:=h.toNat) (by omega) o
 exact⟨hm,u1,u2⟩
theorem op_true {v:Value.D} {bw:Block.D} {tw:Nat} (hd:Den sym bw tw l [] v):opB l v sym=true:=by
 unfold opB
 rw[walk_nil hd]
 show(v.1==sym)=true
 rw[hd.facts.2.2.2.1];simp
theorem some_lawN {h k:Int} {u:List Int} {c:List Subset.D} {v:List Value.D} (hd:Den sym b t0 l [] m) (hc:CovOk h k u c) (h0:0≤h) (hl:l.length+c.length*(2*h.toNat+3)≤65536) (hvl:v.length=c.length)
 (hv: ∀q:Nat,q<c.length→WF Value (vaT v q)∧ ∃bw tw,Den sym bw tw l [] (vaT v q)):
 ∃r out,someV l h k m c v=(out,l++r,0)∧r.length≤c.length*(2*h.toNat+3)∧GoodL (l++r)∧Sent sym b t0 (l++r) h k c v out c.length:=by
 have hn:noSome l m c v=false:=by
  unfold noSome
  rw[hvl,hd.facts.2.2.2.1,op_true hd]
  simp
 have hb:badSome l h k m c v=false:=by
  unfold badSome
  have e1:c.any (fun s=>oddS h k s)=false:=by
   rw[List.any_eq_false]
   intro s hs
   unfold oddS
   rw[(hc.may h0 s hs).1];decide
  have e2:v.any (fun s=>shutV l (flatV m) s)=false:=by
   rw[List.any_eq_false]
   intro s hs
   obtain⟨q,hq,rfl⟩:=List.getElem_of_mem hs
   obtain⟨_,bw,tw,hw⟩:=hv q (by omega)
   have e:vaT v (q:Int)=v[q]:=by unfold vaT;simp [hq]
   rw[e]at hw
   unfold shutV
   have:(flatV m).1=sym:=hd.facts.2.2.2.1
   rw[this,op_true hw];decide
  rw[e1,e2];rfl
 obtain⟨r,out,c1,c2,c3,c4⟩:=someR_run (b:=b) (t0:=t0) (m:=m) (hc.may h0) c.length 0 l (List.replicate c.length (Part:Ty).dflt) hd hv hl (by omega) ⟨by simp,fun q hq=>absurd hq (Nat.not_lt_zero q)⟩
 have hX:someX l h k m c v=(false,l++r,out,0,0+c.length):=by
  unfold someX
  rw[Int.toNat_natCast];exact c1
 refine⟨r,out, ?_,c2,c3,c4⟩
 unfold someV
 rw[hn,hb,hX];rfl
end
end Go.AM.Seat
