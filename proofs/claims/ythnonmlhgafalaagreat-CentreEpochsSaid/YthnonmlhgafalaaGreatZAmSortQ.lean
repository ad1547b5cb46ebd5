import Derived.Test.YthnonmlhgafalaaGreatZAmFn
import Derived.Shelf.SlSortCmp.NoneTotal
set_option linter.unusedVariables false
namespace Go.AM
open Go Go.Proofs Go.Shelf Go.Sort Go.RowKit Go.Lib
def encQ (x:Int×Int):List Value:=[.int .u64 x.1,.int .u64 x.2]
def cfQ (x y:Int×Int):Int:=if x.1<y.1 then -1 else if y.1<x.1 then 1 else if x.2<y.2 then -1 else if y.2<x.2 then 1 else 0
def ltQ (x y:Int×Int):Bool:=decide (x.1<y.1)||(decide (x.1=y.1)&&decide (x.2<y.2))
theorem cfQ_lt (x y:Int×Int):ltOf cfQ x y=ltQ x y:=by
 unfold ltOf cfQ ltQ
 apply Bool.eq_iff_iff.2
 simp only[decide_eq_true_eq,Bool.or_eq_true,Bool.and_eq_true]
 split
 ·omega
 ·split
  ·omega
  ·split
   ·omega
   ·split<;>omega
theorem swoQ:SWO (ltOf cfQ) where
 irrefl x:=by rw[cfQ_lt];unfold ltQ;simp
 trans x y z h1 h2:=by rw[cfQ_lt]at*;unfold ltQ at*;simp at*;omega
 ntrans x y z h1 h2:=by rw[cfQ_lt]at*;unfold ltQ at*;simp at*;omega
theorem totQ (x y:Int×Int) (h1:ltOf cfQ x y=false) (h2:ltOf cfQ y x=false):x=y:=by
 rw[cfQ_lt]at*;unfold ltQ at*;simp at*;exact Prod.ext (by omega) (by omega)
def sortQ (l:List (Int×Int)):List (Int×Int):=l.mergeSort fun x y=> !ltOf cfQ y x
theorem sortQ_len (l:List (Int×Int)):(sortQ l).length=l.length:=List.length_mergeSort l
theorem sortQ_mem {l:List (Int×Int)} {x:Int×Int}:x∈sortQ l↔x∈l:=List.mem_mergeSort
theorem sortQ_perm (l:List (Int×Int)):(sortQ l).Perm l:=List.mergeSort_perm l _
theorem flat_at (d:Array (Int×Int)) (j q:Nat) (hj:j<d.size) (hq:q<2):(flatK encQ 2 d)[j*2+q]! =(encQ d[j]!)[q]! :=by
 rw[get_flatK _ _ _ _ (by omega),show(j*2+q)/2=j by omega,show(j*2+q)%2=q by omega]
theorem sort_ioQ {P:Program} {ρ:Go.Shelf.Ren} (L:SlLaysF0.n6 P ρ) (aE: ∀w,(isAgg (ρ.t 24)).run P w= .ok true w) (zE: ∀w,(Go.sizeOf (ρ.t 24)).run P w= .ok 2 w) (g:Nat)
 (eg: ∀args w,(callFunc g args).run P w= .ok (.enter g args) w) (hcmp: ∀(x y:Int×Int) (W:World),Calls P g #[.agg (encQ x).toArray,.agg (encQ y).toArray] W fun e w'=>e= .returned (.int .i64 (cfQ x y))∧ ∃q os',w'=grow (W.drewN q) os')
 (l:List (Int×Int)) (hl:l.length≤1000000):
 GoodIO P (ρ.f 6) [.one (.hot 0 none),.one (.fn g [])] 1 [.arr false (.pair (.int .u64) (.int .u64)) l] (.tup []) [.arr false (.pair (.int .u64) (.int .u64)) (sortQ l)]:=by
 intro w okA vs μ hA hargs hO
 cases hargs with
 | @cons x v xs vs hx hxs=>
 cases hxs with
 | @cons x2 v2 xs2 vs2 hx2 hxs2=>
 cases hxs2
 obtain⟨rfl,_,_⟩:=(hx:SVRel0 w μ (argOK okA) (.hot 0 none) v)
 obtain⟨cs2,rfl,hcs2⟩:=(hx2:SVRel w μ (argOK okA) (.fn g []) v2)
 cases hcs2
 obtain⟨h1,h2,h3,h4⟩:=(hO.own 0:OwnRel w μ (argOK okA) 0 (.arr false (.pair (.int .u64) (.int .u64)) l))
 have hres: ∀(w':World) fr b,argOK okA fr b→resOK w w' okA fr b:=fun w' fr b h=> .inr h
 have hT: ∀b,argOK okA true b→argOK okA false b:=fun b h=>absurd h.1 (by simp)
 have one: ∀(g:AV) (k:Nat),(ownAt [g] k).isOwner=true→k=0∧ownAt [g] k=g:=fun g k hk=>by
  cases k with
  |zero=>exact⟨rfl,rfl⟩
  |succ k=>unfold ownAt at hk;simp [AV.isOwner]at hk
 rcases h4 with⟨hb,rfl,hc⟩|⟨b,c,E,hb,hblk,hcap,hcs⟩
 ·have e:slv (μ 0) none= .slice none 0 0:=by unfold slv;rw[hb,hc,Option.getD_none,h1];rfl
  rw[e]
  refine(AnyF.slices_SortFunc_none L none 0 _ w).mono fun e w' hh=> ?_
  obtain⟨rfl,rfl⟩:=hh
  refine⟨_,rfl,⟨rfl,rfl,rfl,Nat.le_refl _,fun _ _ _=>rfl⟩,argOK okA,μ,hres w',hT,⟨[],rfl,.nil⟩, ?_,fun k b hk hb'=> .inr ⟨0,rfl,by rw[←hb',(one _ k hk).1]⟩,fun _ _=>rfl⟩
  have:sortQ []=[]:=by simp [sortQ]
  rw[this];exact hO
 ·have e1:(Ty.pair (.int IntKind.u64) (.int IntKind.u64)).size=2:=rfl
  rw[e1]at hcap
  have hcell: ∀j (h:j<l.length) q,q<2→c[j*2+q]? =some (encQ l[j])[q]! ∧IntKind.u64.has l[j].1∧IntKind.u64.has l[j].2:=fun j h q hq=>by
   obtain⟨cs,t1,t2⟩:=hcs j h
   obtain⟨u,v,rfl,⟨rfl,u2⟩,⟨rfl,v2⟩⟩:=(t1: ∃u v,cs=u++v∧_∧_)
   have:=t2 q (by simpa using hq)
   rw[e1]at this
   refine⟨this.trans ?_,u2,v2⟩
   have h2:q<(encQ l[j]).length:=hq
   rw[getElem!_pos _ q h2]
   rfl
  have hH:HoldsK encQ 2 w b 0 l.toArray:=fun t ht=>by
   have ht:t<l.length*2:=by simpa using ht
   obtain⟨j,q,hq,rfl⟩: ∃j q,q<2∧t=j*2+q:=⟨t/2,t%2,by omega,by omega⟩
   have hj:j<l.length:=by omega
   have hv:l.toArray[j]! =l[j]:=by simp [hj]
   rw[flat_at _ _ _ (by simpa using hj) hq,hv]
   refine⟨?_, ?_⟩
   ·rw[cell_of_row w b _ _ _ _ hblk,Nat.zero_add];exact(hcell j hj q hq).1
   ·unfold World.frozen?
    rw[hblk]
    show(decide (0≤0+_)&&decide (0+_<0))=false
    simp
  have hbl:b<w.heap.size:=(hO.blk 0 b rfl hb).1
  have e:slv (μ 0) none= .slice (some ⟨b,0,none⟩) l.toArray.size (μ 0).cap:=by unfold slv;rw[hb,Option.getD_none,h1];simp
  rw[e]
  refine(AnyQ.slices_SortFunc_total L 2 aE zE encQ (fun _=>rfl) (fun x v hv=>by simp [encQ]at hv;rcases hv with rfl|rfl<;>rfl) cfQ swoQ g #[] b 0 (μ 0).cap l.toArray w eg (fun _ _ _ _ x y=>hcmp x y _) hH hbl (by simp;omega) totQ).mono fun e w' hh=> ?_
  obtain⟨rfl,n,os,hW⟩:=hh
  have hd:(l.toArray.toList.mergeSort fun x y=> !ltOf cfQ y x)=sortQ l:=by simp [sortQ]
  rw[hd]at hW
  have hmem: ∀x∈sortQ l,x∈l:=fun x hx=>sortQ_mem.1 hx
  have hlen:=sortQ_len l
  generalize sortQ l=l' at*
  have hbase:w'.heap[b]? =some (.cells (putCells id 0 (flatK encQ 2 l'.toArray) c) E (0,0))∧w'.os=w.os∧w'.tape=w.tape∧w'.output=w.output∧w.heap.size≤w'.heap.size∧ ∀k,k<w.heap.size→k≠b→w'.heap[k]? =w.heap[k]? :=by
   rw[hW]
   refine⟨?_,rfl,rfl,rfl, ?_,fun k hk hne=> ?_⟩
   ·show((w.heap.modify b _)++os)[b]? =_
    rw[Array.getElem?_append_left (by rw[Array.size_modify];exact hbl),Array.getElem?_modify,if_pos rfl,hblk];rfl
   ·show _≤((w.heap.modify b _)++os).size
    rw[Array.size_append,Array.size_modify];omega
   ·show((w.heap.modify b _)++os)[k]? =_
    rw[Array.getElem?_append_left (by rw[Array.size_modify];exact hk),Array.getElem?_modify,if_neg (fun e=>hne e.symm)]
  obtain⟨b1,b2,b3,b4,b5,b6⟩:=hbase
  have hmine:ioMine [.arr false (.pair (.int .u64) (.int .u64)) l] μ b:=⟨0,rfl,hb⟩
  refine⟨_,rfl,⟨b2,b3,b4,b5,fun k hk hm=>b6 k hk fun e=>hm (by rw[e];exact hmine)⟩,argOK okA,μ,hres _,hT,⟨[],rfl,.nil⟩,⟨fun k=> ?_,fun k b' hk hb'=> ?_,fun j k b' hj hk _ _=> ?_⟩,fun k b' hk hb'=> ?_,fun _ _=>rfl⟩
  ·cases k with
   |succ k=>unfold ownAt;simp [OwnRel]
   |zero=>
    refine⟨by rw[hlen];exact h1,h2,h3,.inr ⟨b,_,E,hb,b1, ?_,fun j hj=> ?_⟩⟩
    ·rw[e1];unfold putCells;rw[Array.size_mapIdx];exact hcap
    ·have hj':j<l.length:=by rw[←hlen];exact hj
     have hm:l'[j]∈l:=hmem _ (List.getElem_mem hj)
     obtain⟨i,hi,ei⟩:=List.getElem_of_mem hm
     obtain⟨_,u1,u2⟩:=hcell i hi 0 (by omega)
     refine⟨encQ l'[j],⟨[.int .u64 l'[j].1],[.int .u64 l'[j].2],rfl,⟨rfl,by rw[←ei];exact u1⟩,⟨rfl,by rw[←ei];exact u2⟩⟩,fun q hq=> ?_⟩
     have hq:q<2:=hq
     rw[e1]
     have hsz:j*2+q<c.size:=by omega
     unfold putCells
     rw[Array.getElem?_mapIdx,Array.getElem?_eq_getElem hsz]
     simp only[Option.map_some,Nat.zero_le,true_and,Nat.zero_add,Nat.sub_zero,id_eq,size_flatK]
     rw[if_pos (by simp;omega),flat_at _ _ _ (by simpa using hj) hq]
     have hv:l'.toArray[j]! =l'[j]:=by simp [hj]
     rw[hv,getElem!_pos _ q (show q<(encQ l'[j]).length from hq)]
  ·obtain⟨rfl,_⟩:=one _ k hk
   rw[hb]at hb';cases hb'
   exact⟨by omega,(hO.blk 0 b rfl hb).2⟩
  ·rw[(one _ j hj).1,(one _ k hk).1]
  ·obtain⟨rfl,_⟩:=one _ k hk
   exact .inr ⟨0,rfl,hb'⟩
end Go.AM
