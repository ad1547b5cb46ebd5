import Derived.Test.YthnonmlhgafalaaGreatZSeDl
import Derived.Test.YthnonmlhgafalaaGreatZM37
set_option linter.unusedVariables false
set_option linter.unusedSimpArgs false
set_option maxRecDepth 100000
namespace Go.AM.Seat
open Go Go.AM Go.Proofs Go.Shelf Go.Sort
def delL (i j:Nat) (l:List Int):List Int:=l.take i++l.drop j
theorem del_len {i j:Nat} {l:List Int} (hij:i≤j) (hj:j≤l.length):(delL i j l).length=l.length-(j-i):=by
 unfold delL
 simp only[List.length_append,List.length_take,List.length_drop];omega
theorem io1076 (l:List Int) (i j:Nat) (f:Bool) (hij:i<j) (hj:j≤l.length) (hl:l.length≤1000000):
 GoodIO Tryz.prog N1076 [.one (.hot 0 none),.one (.int .i64 i),.one (.int .i64 j)] 0 [.arr f U l] (.one (.hot 0 none)) [.arr true U (delL i j l)]:=by
 intro w okA vs μ hA hargs hO
 cases hargs with
 | @cons _ v1 _ _ hx1 t=>
 cases t with
 | @cons _ v2 _ _ hx2 t=>
 cases t with
 | @cons _ v3 _ _ hx3 t=>
 cases t
 obtain⟨rfl,_,_⟩:=(hx1:SVRel0 w μ (argOK okA) (.hot 0 none) v1)
 have e2:v2= .int .i64 (i:Int):=hx2.1
 have e3:v3= .int .i64 (j:Int):=hx3.1
 subst e2 e3
 have e1:(Ty.int IntKind.u64).size=1:=rfl
 obtain⟨h1,h2,h3,h4⟩:=(hO.own 0:OwnRel w μ (argOK okA) 0 (.arr f (.int .u64) l))
 rcases h4 with⟨_,rfl,_⟩|⟨b,c,E,hb,hblk,hcap,hcs⟩
 ·simp at hj;omega
 have hcell: ∀q (h:q<l.length),c[q]? =some (.int .u64 l[q]):=fun q h=>by
  obtain⟨cs,t1,t2⟩:=hcs q h
  have hcs1:cs=[.int .u64 l[q]]:=t1.1
  subst hcs1
  have:=t2 0 (by simp)
  rw[e1,Nat.mul_one,Nat.add_zero]at this
  exact this
 have hhas: ∀x∈l,IntKind.u64.has x:=fun x hx=>by
  obtain⟨q,hq,rfl⟩:=List.getElem_of_mem hx
  obtain⟨cs,t1,_⟩:=hcs q hq
  exact t1.2
 rw[e1,Nat.mul_one]at hcap
 have hH:Holds (Value.int .u64) w b 0 l.toArray:=fun q hq=>by
  have hq:q<l.length:=by simpa using hq
  have hv:l.toArray[q]! =l[q]:=by simp [hq]
  rw[hv]
  refine⟨?_, ?_⟩
  ·rw[cell_of_row w b _ _ _ _ hblk,Nat.zero_add];exact hcell q hq
  ·unfold World.frozen?
   rw[hblk]
   show(decide (0≤0+q)&&decide (0+q<0))=false
   simp
 have e:slv (μ 0) none= .slice (some ⟨b,0,none⟩) l.toArray.size (μ 0).cap:=by unfold slv;rw[hb,Option.getD_none,h1];simp
 rw[e]
 obtain⟨i0,hi0,hz0,hzs,hzb⟩:=info_parts I22
 have hcon:=AnyE.slices_Delete layDl (Value.int .u64) (fun _=>rfl) 0 zerDl i0 hi0 hzs b 0 (μ 0).cap i j l.toArray w hH (by simp;omega) h3 (by omega) (by simpa using hj)
 refine hcon.mono fun e w' hh=> ?_
 obtain⟨rfl,q,hW'⟩:=hh
 clear hcon
 have hbl:b<w.heap.size:=(hO.blk 0 b rfl hb).1
 have hdl:=del_len (Nat.le_of_lt hij) hj
 refine insAt_back (l':=delL i j l) hA.1.lt (.inl ⟨⟨0,rfl,hb⟩,fun g=>(hO.blk 0 b rfl hb).2 ⟨rfl,g⟩⟩) (fun y hy=> ?_) ?_
 ·unfold delL at hy
  rcases List.mem_append.1 hy with h|h
  ·exact hhas y (List.mem_of_mem_take h)
  ·exact hhas y (List.mem_of_mem_drop h)
 ·have hsd:(l.toArray.toList.take i++l.toArray.toList.drop j++List.replicate (j-i) (0:Int)).toArray.size=l.length:=by
   simp only[List.size_toArray,List.length_append,List.length_take,List.length_drop,List.length_replicate];omega
  have hat: ∀t (h:t<(delL i j l).length),(l.toArray.toList.take i++l.toArray.toList.drop j++List.replicate (j-i) (0:Int)).toArray[t]! =(delL i j l)[t]:=fun t ht=>by
   rw[getElem!_pos _ t (by omega)]
   unfold delL at ht⊢
   simp only[List.getElem_toArray]
   rw[List.getElem_append_left ht]
  generalize (l.toArray.toList.take i++l.toArray.toList.drop j++List.replicate (j-i) (0:Int)).toArray=d at*
  have hw:w'.heap[b]? =some (.cells (putCells (Value.int .u64) 0 d c) E):=by rw[hW'];exact mapBlock_at _ hblk
  have hsz:w'.heap.size=w.heap.size:=by rw[hW'];exact mapBlock_size _
  have hne: ∀k,k≠b→w'.heap[k]? =w.heap[k]? :=fun k hk=>by rw[hW'];exact mapBlock_ne _ hk
  refine⟨b,(μ 0).cap,_,E, ?_,by rw[List.length_map];omega,h3,by unfold putCells;rw[Array.size_mapIdx];exact hcap,hw,fun t ht=> ?_,.inl rfl,by rw[hsz];exact hbl,by rw[hW'];rfl,by rw[hW'];rfl,by rw[hW'];rfl,Nat.le_of_eq hsz.symm,fun k _ hk=>hne k hk⟩
  ·rw[List.length_map,hdl];simp
  ·rw[List.length_map]at ht
   have htc:t<c.size:=by omega
   have h9:=hat t ht
   unfold putCells
   rw[Array.getElem?_mapIdx,Array.getElem?_eq_getElem htc]
   simp only[Option.map_some,Nat.zero_le,true_and,Nat.zero_add,Nat.sub_zero]
   rw[if_pos (by omega),h9,List.getElem?_map,List.getElem?_eq_getElem ht];rfl
def s1076:Sp:= .io fun a p gs=>match a,p,gs with
 |[.one (.hot 0 none),.one (.int .i64 i),.one (.int .i64 j)],0,[.arr _ (.int .u64) l]=>some (decide (0≤i)&&decide (i<j)&&decide (j≤l.length)&&decide (l.length≤1000000),.one (.hot 0 none),[.arr true U (delL i.toNat j.toNat l)])
 |_,_,_=>none
theorem g1076:GoodS Tryz.prog N1076 s1076:=by
 refine GoodS.io (callable_of H1076 (bd rfl) (by kernel_rfl)) fun a p gs r gs' hw1 hw2 h=> ?_
 clear hw1 hw2
 unfold s1076 at h
 split at h
 ·rename_i i j f l
  simp only[Option.some.injEq,Prod.mk.injEq,Bool.and_eq_true,decide_eq_true_eq]at h
  obtain⟨⟨⟨⟨h0,h1⟩,h2⟩,h3⟩,rfl,rfl⟩:=h
  obtain⟨n,rfl⟩: ∃m:Nat,(m:Int)=i:=⟨i.toNat,Int.toNat_of_nonneg h0⟩
  obtain⟨k,rfl⟩: ∃m:Nat,(m:Int)=j:=⟨j.toNat,Int.toNat_of_nonneg (by omega)⟩
  rw[Int.toNat_natCast,Int.toNat_natCast]
  exact io1076 l n k f (by omega) (by omega) h3
 ·cases h
end Go.AM.Seat
