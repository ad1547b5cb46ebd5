import Derived.Test.YthnonmlhgafalaaGreatZAmFn
import Derived.Shelf.SlicesE.Compact
set_option linter.unusedVariables false
namespace Go.AM
open Go Go.Proofs Go.Shelf Go.Sort
def compactL (l:List Int):List Int:=Lib.compactUpTo l.toArray l.toArray.size
theorem compactL_len (l:List Int):(compactL l).length≤l.length:=by
 unfold compactL Lib.compactUpTo
 rw[List.length_map]
 refine Nat.le_trans (List.length_filter_le _ _) ?_
 simp
theorem compactL_mem {l:List Int} {x:Int} (h:x∈compactL l):x∈l:=by
 unfold compactL Lib.compactUpTo at h
 obtain⟨k,hk,rfl⟩:=List.mem_map.1 h
 have hk:=List.mem_range.1 (List.mem_filter.1 hk).1
 have hk:k<l.length:=by simpa using hk
 have:l.toArray[k]! =l[k]:=by simp [hk]
 rw[this];exact List.getElem_mem hk
theorem mapBlock_at {w:World} {n b:Nat} {c:Array Value} {E:TypeId} {fr:Nat×Nat} (f:Array Value→Array Value) (h:w.heap[b]? =some (.cells c E fr)):(mapBlock (Sort.ahead w n) b f).heap[b]? =some (.cells (f c) E fr):=by
 show(w.heap.modify b (onCells f))[b]? =_
 rw[Array.getElem?_modify,if_pos rfl,h];rfl
theorem mapBlock_ne {w:World} {n b k:Nat} (f:Array Value→Array Value) (h:k≠b):(mapBlock (Sort.ahead w n) b f).heap[k]? =w.heap[k]? :=by
 show(w.heap.modify b (onCells f))[k]? =_
 rw[Array.getElem?_modify,if_neg (fun e=>h e.symm)]
theorem mapBlock_size {w:World} {n b:Nat} (f:Array Value→Array Value):(mapBlock (Sort.ahead w n) b f).heap.size=w.heap.size:=by
 show(w.heap.modify b (onCells f)).size=_
 rw[Array.size_modify]
theorem shrink_back {w W':World} {okA:Nat→Prop} {μ:Locs} {l l':List Int} {b:Nat} {c c':Array Value} {E:TypeId} (hO:OwnsOk w μ (argOK okA) [.arr false (.int .u64) l]) (hb:(μ 0).b=some b)
 (h1:(μ 0).len=l.length) (h2:(μ 0).len≤(μ 0).cap) (h3:(μ 0).cap≤9223372036854775807) (hcap:(μ 0).cap≤c'.size) (hl:l'.length≤l.length) (hin: ∀x∈l',x∈l) (hok: ∀x∈l,IntKind.u64.has x)
 (hos:W'.os=w.os) (htape:W'.tape=w.tape) (hout:W'.output=w.output) (hw:W'.heap[b]? =some (.cells c' E)) (hsz:W'.heap.size=w.heap.size) (hne: ∀k,k≠b→W'.heap[k]? =w.heap[k]?)
 (hat: ∀j (h:j<l'.length),c'[j]? =some (.int .u64 l'[j])): ∃v,Ending.returned (.slice (some ⟨b,0,none⟩) l'.length (μ 0).cap)=Ending.returned v∧Fr (ioMine [.arr false (.int .u64) l] μ) w W'∧ ∃(ok':OK) (μ':Locs),
  (∀fr b,ok' fr b→resOK w W' okA fr b)∧(∀b,ok' true b→ok' false b)∧AVRel W' μ' ok' (.one (.hot 0 none)) v∧OwnsOk W' μ' ok' [.arr false (.int .u64) l']∧
  (∀k b,(ownAt [.arr false (.int .u64) l'] k).isOwner=true→(μ' k).b=some b→w.heap.size≤b∨ioMine [.arr false (.int .u64) l] μ b)∧(∀k,k<0→μ' k=μ k):=by
 have hT: ∀b,argOK okA true b→argOK okA false b:=fun b h=>absurd h.1 (by simp)
 have one: ∀(g:AV) (k:Nat),(ownAt [g] k).isOwner=true→k=0∧ownAt [g] k=g:=fun g k hk=>by
  cases k with
  |zero=>exact⟨rfl,rfl⟩
  |succ k=>unfold ownAt at hk;simp [AV.isOwner]at hk
 have hbl:b<w.heap.size:=(hO.blk 0 b rfl hb).1
 have hmine:ioMine [.arr false (.int .u64) l] μ b:=⟨0,rfl,hb⟩
 have e1:(Ty.int IntKind.u64).size=1:=rfl
 refine⟨_,rfl,⟨hos,htape,hout,Nat.le_of_eq hsz.symm,fun k hk hm=>hne k fun e=>hm (by subst e;exact hmine)⟩,argOK okA,fun k=>match k with|0=>⟨some b,l'.length,(μ 0).cap⟩|k+1=>μ (k+1),fun fr b h=> .inr h,hT,
  ⟨rfl,fun m h=>(by cases h),by show l'.length≤_;omega⟩,⟨fun k=> ?_,fun k b' hk hb'=> ?_,fun j k b' hj hk _ _=> ?_⟩,fun k b' hk hb'=> ?_,fun k hk=>absurd hk (Nat.not_lt_zero _)⟩
 ·cases k with
  |succ k=>unfold ownAt;simp [OwnRel]
  |zero=>
   refine⟨rfl,by show l'.length≤(μ 0).cap;omega,h3,.inr ⟨b,_,E,rfl,hw, ?_,fun j hj=> ?_⟩⟩
   ·show(μ 0).cap*1≤_
    omega
   ·refine⟨[.int .u64 l'[j]],⟨rfl,hok _ (hin _ (List.getElem_mem hj))⟩,fun q hq=> ?_⟩
    obtain rfl:q=0:=by simp at hq;exact hq
    rw[e1,Nat.mul_one,Nat.add_zero]
    exact hat j hj
 ·obtain⟨rfl,_⟩:=one _ k hk
  cases hb'
  exact⟨by rw[hsz];exact hbl,(hO.blk 0 b rfl hb).2⟩
 ·rw[(one _ j hj).1,(one _ k hk).1]
 ·obtain⟨rfl,_⟩:=one _ k hk
  cases hb'
  exact .inr hmine
theorem compact_io {P:Program} {ρ:Go.Shelf.Ren} (L:SlLaysE.n43 P ρ) (hz: ∀w:World,Sem.run P (zeroValue (ρ.t 23)) w= .ok (.int .u64 0) w)
 (hnil: ∀w:World,Calls P (ρ.f 43) #[.slice none 0 0] w fun e w'=>e= .returned (.slice none 0 0)∧w'=w) (l:List Int) (hl:l.length≤1000000):
 GoodIO P (ρ.f 43) [.one (.hot 0 none)] 0 [.arr false (.int .u64) l] (.one (.hot 0 none)) [.arr false (.int .u64) (compactL l)]:=by
 intro w okA vs μ hA hargs hO
 cases hargs with
 | @cons x v xs vs hx hxs=>
 cases hxs
 obtain⟨rfl,_,_⟩:=(hx:SVRel0 w μ (argOK okA) (.hot 0 none) v)
 obtain⟨h1,h2,h3,h4⟩:=(hO.own 0:OwnRel w μ (argOK okA) 0 (.arr false (.int .u64) l))
 have hres: ∀(w':World) fr b,argOK okA fr b→resOK w w' okA fr b:=fun w' fr b h=> .inr h
 have hT: ∀b,argOK okA true b→argOK okA false b:=fun b h=>absurd h.1 (by simp)
 have one: ∀(g:AV) (k:Nat),(ownAt [g] k).isOwner=true→k=0∧ownAt [g] k=g:=fun g k hk=>by
  cases k with
  |zero=>exact⟨rfl,rfl⟩
  |succ k=>unfold ownAt at hk;simp [AV.isOwner]at hk
 have hlen:=compactL_len l
 rcases h4 with⟨hb,rfl,hc⟩|⟨b,c,E,hb,hblk,hcap,hcs⟩
 ·have e:slv (μ 0) none= .slice none 0 0:=by unfold slv;rw[hb,hc,Option.getD_none,h1];rfl
  rw[e]
  refine(hnil w).mono fun e w' hh=> ?_
  obtain⟨rfl,rfl⟩:=hh
  have e0:compactL []=[]:=rfl
  rw[e0]
  refine⟨_,rfl,⟨rfl,rfl,rfl,Nat.le_refl _,fun _ _ _=>rfl⟩,argOK okA,μ,hres w',hT,⟨e.symm▸rfl,fun m h=>(by cases h),by omega⟩, ?_,fun k b hk hb'=> .inr ⟨0,rfl,by rw[←hb',(one _ k hk).1]⟩,fun k hk=>absurd hk (Nat.not_lt_zero _)⟩
  exact hO
 ·have hcell: ∀j (h:j<l.length),c[j]? =some (.int .u64 l[j]):=fun j h=>by
   obtain⟨cs,t1,t2⟩:=hcs j h
   have hcs1:cs=[.int .u64 l[j]]:=t1.1
   subst hcs1
   have:=t2 0 (by simp)
   have e1:(Ty.int IntKind.u64).size=1:=rfl
   rw[e1,Nat.mul_one,Nat.add_zero]at this
   exact this
  have e1:(Ty.int IntKind.u64).size=1:=rfl
  rw[e1,Nat.mul_one]at hcap
  have hH:Holds (Value.int .u64) w b 0 l.toArray:=fun j hj=>by
   have hj:j<l.length:=by simpa using hj
   have hv:l.toArray[j]! =l[j]:=by simp [hj]
   rw[hv]
   refine⟨?_, ?_⟩
   ·rw[cell_of_row w b _ _ _ _ hblk,Nat.zero_add];exact hcell j hj
   ·unfold World.frozen?
    rw[hblk]
    show(decide (0≤0+j)&&decide (0+j<0))=false
    simp
  have hbl:b<w.heap.size:=(hO.blk 0 b rfl hb).1
  have e:slv (μ 0) none= .slice (some ⟨b,0,none⟩) l.toArray.size (μ 0).cap:=by unfold slv;rw[hb,Option.getD_none,h1];simp
  rw[e]
  have hcon:=AnyE.slices_Compact L (Value.int .u64) (fun _=>rfl) (EqlAt.intD _ _ _) (NeqAt.intD _ _ _) 0 hz b 0 (μ 0).cap l.toArray w hH (by simp;omega) (by simp;omega)
  have hcl:Lib.compactUpTo l.toArray l.toArray.size=compactL l:=rfl
  rw[hcl]at hcon
  have hmem: ∀x∈compactL l,x∈l:=fun x=>compactL_mem
  generalize compactL l=l' at*
  refine hcon.mono fun e w' hh=> ?_
  obtain⟨rfl,n,hW'⟩:=hh
  clear hcon
  have hhas: ∀x∈l,IntKind.u64.has x:=fun x hx=>by
   obtain⟨i,hi,e⟩:=List.getElem_of_mem hx
   obtain⟨cs,t1,_⟩:=hcs i hi
   rw[←e];exact t1.2
  have hl2:l'.length≤(l'++List.replicate (l.toArray.size-l'.length) (0:Int)).toArray.size:=by simp
  have hat: ∀j (h:j<l'.length),(l'++List.replicate (l.toArray.size-l'.length) (0:Int)).toArray[j]! =l'[j]:=fun j hj=>by
   rw[getElem!_pos _ j (by omega)]
   simp [List.getElem_append_left,hj]
  generalize (l'++List.replicate (l.toArray.size-l'.length) (0:Int)).toArray=d at*
  have hw:w'.heap[b]? =some (.cells (putCells (Value.int .u64) 0 d c) E):=by rw[hW'];exact mapBlock_at _ hblk
  have hsz:w'.heap.size=w.heap.size:=by rw[hW'];exact mapBlock_size _
  have hne: ∀k,k≠b→w'.heap[k]? =w.heap[k]? :=fun k hk=>by rw[hW'];exact mapBlock_ne _ hk
  refine shrink_back (c:=c) hO hb h1 h2 h3 (by unfold putCells;rw[Array.size_mapIdx];exact hcap) hlen hmem hhas (by rw[hW'];rfl) (by rw[hW'];rfl) (by rw[hW'];rfl) hw hsz hne (fun j hj=> ?_)
  have hjc:j<c.size:=by omega
  have h9:=hat j hj
  unfold putCells
  rw[Array.getElem?_mapIdx,Array.getElem?_eq_getElem hjc]
  simp only[Option.map_some,Nat.zero_le,true_and,Nat.zero_add,Nat.sub_zero]
  rw[if_pos (by omega),h9]
end Go.AM
