import Derived.Test.YthnonmlhgafalaaGreatZSeCm
import Derived.Shelf.RegionOpenPlain
import Derived.WalkKit
import Derived.Tactics2
import Derived.Lib.Walk
import Derived.Lib.SliceRun
import Derived.Lib.JoinLaws
import Derived.Lib.AppendZerosOnto
import Derived.Lib.Overlaps
import Derived.Laws.Externs
import Derived.Laws.NewBlocks
import Derived.Shelf.Spec.SlicesInsert
set_option linter.unusedVariables false
set_option linter.unusedSimpArgs false
namespace Go.AM.Seat
open Go Go.AM Go.Proofs Go.Lib
theorem setCells_row {b:Nat} {E:TypeId}: ∀(vs:List Value) (o:Nat) (w:World) (c:Array Value),w.heap[b]? =some (.cells c E)→o+vs.length≤c.size→
 ∃c',(w.setCells b o vs).heap[b]? =some (.cells c' E)∧c'.size=c.size∧(∀j,j<o∨o+vs.length≤j→c'[j]? =c[j]?)∧ ∀j,j<vs.length→c'[o+j]? =vs[j]?
 |[],o,w,c,h,_=>⟨c,h,rfl,fun _ _=>rfl,fun j hj=>absurd hj (Nat.not_lt_zero _)⟩
 |v::r,o,w,c,h,hl=>by
  have hl:o+(r.length+1)≤c.size:=hl
  have h1:(w.setCell ⟨b,o,none⟩ v).heap[b]? =some (.cells (c.setIfInBounds o v) E):=by
   show(w.heap.modify b _)[b]? =_
   rw[Array.getElem?_modify,if_pos rfl,h];rfl
  obtain⟨c',g1,g2,g3,g4⟩:=setCells_row r (o+1) _ _ h1 (by rw[Array.size_setIfInBounds];omega)
  refine⟨c',g1,by rw[g2,Array.size_setIfInBounds],fun j hj=> ?_,fun j hj=> ?_⟩
  ·have hj:j<o∨o+(r.length+1)≤j:=hj
   rw[g3 j (by omega),Array.getElem?_setIfInBounds,if_neg (by omega)]
  ·cases j with
   |zero=>
    rw[Nat.add_zero,g3 o (by omega),Array.getElem?_setIfInBounds,if_pos rfl,if_pos (by omega)];rfl
   |succ j=>
    have hj:j+1<r.length+1:=hj
    rw[show o+(j+1)=o+1+j by omega,g4 j (by omega)];rfl
theorem setCells_fr (b:Nat): ∀(vs:List Value) (o:Nat) (w:World),(w.setCells b o vs).os=w.os∧(w.setCells b o vs).tape=w.tape∧(w.setCells b o vs).output=w.output∧
 (w.setCells b o vs).heap.size=w.heap.size∧ ∀k,k≠b→(w.setCells b o vs).heap[k]? =w.heap[k]?
 |[],_,_=>⟨rfl,rfl,rfl,rfl,fun _ _=>rfl⟩
 |v::r,o,w=>by
  obtain⟨h1,h2,h3,h4,h5⟩:=setCells_fr b r (o+1) (w.setCell ⟨b,o,none⟩ v)
  refine⟨h1,h2,h3, ?_,fun k hk=> ?_⟩
  ·show((w.setCell ⟨b,o,none⟩ v).setCells b (o+1) r).heap.size=_
   rw[h4]
   show(w.heap.modify b _).size=_
   rw[Array.size_modify]
  ·show((w.setCell ⟨b,o,none⟩ v).setCells b (o+1) r).heap[k]? =_
   rw[h5 k hk]
   show(w.heap.modify b _)[k]? =_
   rw[Array.getElem?_modify,if_neg (fun e=>hk e.symm)]
theorem cp_run {P:Program} {t e:TypeId} (ht:P.underlying t=some (.slice e)) (hs:(P.info? e).map (·.size)=some 1) {W:World} {b b2:Nat} {c c2:Array Value} {E E2:TypeId}
 (hb:W.heap[b]? =some (.cells c E)) (h2:W.heap[b2]? =some (.cells c2 E2)) (o o2 ld dc ls sc:Nat) (vs:List Value) (hn:vs.length=Nat.min ls ld) (hc:o+vs.length≤c.size)
 (hat: ∀j v,vs[j]? =some v→c2[o2+j]? =some v) (h1: ∀v∈vs,v.oneCell'=true) (ty:TypeId):
 (Builtin.copy_ #[t,t] ty #[.slice (some ⟨b,o,none⟩) ld dc,.slice (some ⟨b2,o2,none⟩) ls sc]).run P W= .ok (goInt vs.length) (W.setCells b o vs):=
 run_copy_cells W _ _ ty e b o ld dc ⟨b2,o2,none⟩ ls sc vs ht hs hn (fun j v hj=>by rw[Addr.add_lit];simp only[World.cell?,h2];exact hat j v hj)
  (fun j hj=>by
   have hj:o+j<c.size:=by omega
   simp [World.cell?,hb,hj]) (fun j hj=>by simp [World.frozen?,hb]) h1
theorem tm1075:F1075.ntmps=95:=by kernel_rfl
theorem T29:Tryz.prog.underlying 29=some (.slice 22):=layCm.t22
theorem I22:(Tryz.prog.info? 22).map (fun i=>(i.zero,i.size,i.bytes))=some (some (Value.int .u64 0),1,8):=by kernel_rfl
theorem S22:(Tryz.prog.info? 22).map (·.size)=some 1:=by
 obtain⟨i0,hi0,h0,h1,h2⟩:=info_parts I22
 rw[hi0];simp [h1]
def InsAt (w:World) (b:Nat) (L:List Value) (e:Ending) (w':World):Prop:=
 ∃b' c' cl' E',e= .returned (.slice (some ⟨b',0,none⟩) L.length c')∧L.length≤c'∧c'≤9223372036854775807∧c'≤cl'.size∧w'.heap[b']? =some (.cells cl' E')∧(∀j,j<L.length→cl'[j]? =L[j]?)∧
  (b'=b∨w.heap.size≤b')∧b'<w'.heap.size∧w'.os=w.os∧w'.tape=w.tape∧w'.output=w.output∧w.heap.size≤w'.heap.size∧ ∀k,k<w.heap.size→k≠b→w'.heap[k]? =w.heap[k]?
section
variable (w:World) (b n c i vb m vc:Nat) (cl cx:Array Value) (E E2:TypeId) (L vs:List Value) (hL:L.length=n) (hv:vs.length=m) (hb:w.heap[b]? =some (.cells cl E)) (hx:w.heap[vb]? =some (.cells cx E2)) (hne:vb≠b)
 (hc:c≤cl.size) (hnc:n≤c) (hat: ∀(j:Nat) (v:Value),L[j]? =some v→cl[j]? =some v) (hx0: ∀(j:Nat) (v:Value),vs[j]? =some v→cx[j]? =some v) (h1: ∀v∈L,v.oneCell'=true) (h1x: ∀v∈vs,v.oneCell'=true)
 (hi:i<n) (hm:0<m) (hn:n+m≤1000001) (hc63:c≤9223372036854775807)
include hL hv hb hx hne hc hnc hat hx0 h1 h1x hi hm hn hc63
set_option maxHeartbeats 4000000 in
set_option maxRecDepth 100000 in
theorem ins_shift (hroom:n+m≤c):Calls Tryz.prog N1075 #[.slice (some ⟨b,0,none⟩) n c,.int .i64 i,.slice (some ⟨vb,0,none⟩) m vc] w (InsAt w b (L.take i++(vs++L.drop i))):=by
 have hbw:b<w.heap.size:=by
  by_cases h:b<w.heap.size
  ·exact h
  ·rw[Array.getElem?_eq_none (by omega)]at hb;cases hb
 have mixed:=layCm.mixed
 have hz1: ¬((m:Int)=0):=by omega
 have hz2: ¬((i:Int)=(n:Int)):=by omega
 have hov: ∀lb cb,(callFunc 301 #[.slice (some ⟨vb,0,none⟩) m vc,.slice (some ⟨b,i+m,none⟩) lb cb]).run Tryz.prog w= .ok (.value (.bool false)) w:=fun lb cb=>by
  rw[run_callFunc_extern H1101 (by kernel_rfl) (by kernel_rfl) (by kernel_rfl) (e:=Extern.SlicesOverlaps.overlaps #[29,29] #[4]) (by kernel_rfl),
   Lib.run_overlaps_apart w 29 4 22 T29 1 layCm.z23 ⟨vb,0,none⟩ ⟨b,i+m,none⟩ m vc lb cb hne E2 E cx.size cl.size (by simp [World.shape?,hx]) (by simp [World.shape?,hb]) (by omega)
    (by simp [World.frozen?,hx]) (by simp [World.frozen?,hx])]
  rfl
 have hdl:(L.drop i).length=n-i:=by rw[List.length_drop,hL]
 have hw1:IntKind.i64.wrap ((i:Int)+(m:Int))=(i:Int)+(m:Int):=by rw[IntKind.wrap_i64];omega
 have hb1:(0:Int)≤(i:Int)+(m:Int):=by omega
 have hin:i≤n:=by omega
 have htn:((i:Int)+(m:Int)).toNat=i+m:=by omega
 have hb2: ¬(c=i+m):=by omega
 have hb3:(i:Int)≤(n:Int)+(m:Int):=by omega
 have hb4: ¬(c=i):=by omega
 have hcp1: ∀ty dc sc,(Builtin.copy_ #[29,29] ty #[.slice (some ⟨b,i+m,none⟩) (n+m-(i+m)) dc,.slice (some ⟨b,i,none⟩) (n+m-i) sc]).run Tryz.prog w.drew= .ok (goInt (L.drop i).length) (w.drew.setCells b (i+m) (L.drop i)):=fun ty dc sc=>
  cp_run T29 S22 (W:=w.drew) hb hb _ _ _ _ _ _ _ (by rw[hdl];simp only[Nat.min_def];split<;>omega) (by omega) (fun j v hj=>hat _ v (by rwa [List.getElem?_drop]at hj)) (fun v hv=>h1 v (List.mem_of_mem_drop hv)) ty
 obtain⟨c1,k1,k2,k3,k4⟩:=setCells_row (L.drop i) (i+m) w.drew cl hb (by omega)
 obtain⟨f1,f2,f3,f4,f5⟩:=setCells_fr b (L.drop i) (i+m) w.drew
 obtain⟨W1,hW1⟩: ∃W1,W1=w.drew.setCells b (i+m) (L.drop i):=⟨_,rfl⟩
 rw[←hW1]at k1 f1 f2 f3 f4 f5 hcp1
 have hcp2: ∀(W:World),W.heap=W1.heap→ ∀ty dc,(Builtin.copy_ #[29,29] ty #[.slice (some ⟨b,i,none⟩) (n+m-i) dc,.slice (some ⟨vb,0,none⟩) m vc]).run Tryz.prog W= .ok (goInt vs.length) (W.setCells b i vs):=fun W hW ty dc=>
  cp_run T29 S22 (W:=W) (c:=c1) (c2:=cx) (by rw[hW];exact k1) (by rw[hW,f5 vb hne];exact hx) _ _ _ _ _ _ _ (by rw[hv];simp only[Nat.min_def];split<;>omega) (by omega) (fun j v hj=>by rw[Nat.zero_add];exact hx0 j v hj) h1x ty
 obtain⟨c2,q1,q2,q3,q4⟩:=setCells_row vs i W1 c1 k1 (by omega)
 obtain⟨p1,p2,p3,p4,p5⟩:=setCells_fr b vs i W1
 have hlen:(L.take i++(vs++L.drop i)).length=n+m:=by simp only[List.length_append,List.length_take,hdl];omega
 have hfin:InsAt w b (L.take i++(vs++L.drop i)) (.returned (.slice (some ⟨b,0,none⟩) (n+m) c)) (W1.setCells b i vs):=by
  refine⟨b,c,c2,E,by rw[hlen],by omega,hc63,by omega,q1,fun j hj=> ?_,.inl rfl,by rw[p4,f4];exact hbw,p1.trans f1,p2.trans f2,p3.trans f3,by rw[p4,f4];exact Nat.le_refl _,fun k hk hkb=>(p5 k hkb).trans (f5 k hkb)⟩
  rw[hlen]at hj
  have ht:(L.take i).length=i:=by rw[List.length_take];omega
  by_cases j1:j<i
  ·rw[q3 j (by omega),k3 j (by omega),List.getElem?_append_left (by omega),List.getElem?_take,if_pos j1]
   have:=hat j L[j] (List.getElem?_eq_getElem (by omega))
   rw[this,List.getElem?_eq_getElem]
  ·rw[List.getElem?_append_right (by omega),ht]
   by_cases j2:j<i+m
   ·have:=q4 (j-i) (by omega)
    rw[show i+(j-i)=j by omega]at this
    rw[this,List.getElem?_append_left (by omega)]
   ·have:=k4 (j-(i+m)) (by omega)
    rw[show i+m+(j-(i+m))=j by omega]at this
    rw[q3 j (by omega),this,List.getElem?_append_right (by omega),hv,Nat.sub_sub]
 clear k1 k2 k3 k4 f1 f2 f3 f4 f5 q1 q2 q3 q4 p1 p2 p3 p4 p5 hlen
 go_enter H1075,tm1075
 go_wp2_with (simp only[hov])
 go_region_law_o (refine step_copy_runI rfl _ _ 29 29 rfl _ _ (by simp [Act.eval,Act.put]) (by simp [Act.eval,Act.put]) (hcp1 _ _ _) ?_)
 go_wp2_with (at_builtin;refine wpList_copy_runI _ rfl _ _ 29 29 rfl _ _ rfl rfl (hcp2 _ rfl _ _) ?_)
 go_ret
 rw[hW1]at hfin
 exact hfin
omit hne hc in
set_option maxHeartbeats 4000000 in
set_option maxRecDepth 100000 in
theorem ins_grow (hroom:c<n+m):Calls Tryz.prog N1075 #[.slice (some ⟨b,0,none⟩) n c,.int .i64 i,.slice (some ⟨vb,0,none⟩) m vc] w (InsAt w b (L.take i++(vs++L.drop i))):=by
 obtain⟨i0,hi0,hz0,hzs,hzb⟩:=info_parts I22
 have lt: ∀ {k:Nat} {o:Obj},w.heap[k]? =some o→k<w.heap.size:=fun {k o} h=>by
  by_cases g:k<w.heap.size
  ·exact g
  ·rw[Array.getElem?_eq_none (by omega)]at h;cases h
 have hbw:=lt hb
 have hvw:=lt hx
 have mixed:=layCm.mixed
 have hz1: ¬((m:Int)=0):=by omega
 have hz2: ¬((i:Int)=(n:Int)):=by omega
 have hz3:(c:Int)<(n:Int)+(m:Int):=by omega
 have hkk:(n:Int)+(m:Int)-(i:Int)=((n+m-i:Nat):Int):=by omega
 have hik:i+(n+m-i)=n+m:=by omega
 have hold:(Builtin.firstCells i0.size i (.slice (some ⟨b,0,none⟩) i c)).run Tryz.prog w.drew= .ok (L.take i).toArray w.drew:=by
  rw[hzs]
  exact run_firstCells_some w.drew 1 i ⟨b,0,none⟩ i c (L.take i) (by rw[List.length_take];omega) (fun j v hj=>by
   rw[Addr.add_lit,Nat.zero_add]
   rw[List.getElem?_take]at hj
   split at hj
   ·show(World.cell? w _)=_
    simp only[World.cell?,hb]
    exact hat j v hj
   ·cases hj)
 have hrz:=fun ty=>Lib.run_append_grow_zeros (P:=Tryz.prog) w 29 3 ty 22 i0 _ .i64 .i64 T29 layCm.t3 hi0 hz0 (some ⟨b,0,none⟩) i c (L.take i) hold (n+m-i) (by omega) (by omega) (by omega) (by omega) (by rw[hzb];omega) (by rw[hzb,hik];exact growslice_fits hroom (by omega))
 have hGn:=grownCap_ge w (n+m) c 22
 have hGm:=grownCap_le_maxLen w (n+m) c 22 (by unfold maxLen;omega)
 unfold maxLen at hGm
 rw[hik,←hkk]at hrz
 generalize grownCap w (n+m) c 22=G at hrz hGn hGm
 obtain⟨ROW,hROW⟩: ∃ROW:Array Value,ROW=(L.take i).toArray++Builtin.zeroCells (Value.int .u64 0).cells (n+m-i)++Builtin.zeroCells (Value.int .u64 0).cells (G-(n+m)):=⟨_,rfl⟩
 rw[←hROW]at hrz
 have hRl:ROW.size=G:=by
  rw[hROW]
  simp [Builtin.zeroCells,Value.cells]
  omega
 have hRat: ∀j,j<i→ROW[j]? =L[j]? :=fun j hj=>by
  rw[hROW,Array.append_assoc,Array.getElem?_append_left (by simp;omega)]
  simp [List.getElem?_take,hj]
 obtain⟨W1,hW1⟩: ∃W1,W1=w.drew.alloc (.cells ROW 22):=⟨_,rfl⟩
 rw[←hW1]at hrz
 have hN:W1.heap[w.heap.size]? =some (.cells ROW 22):=by rw[hW1];exact heap_alloc_new w.drew _
 have hO: ∀k,k<w.heap.size→W1.heap[k]? =w.heap[k]? :=fun k hk=>by rw[hW1];exact heap_alloc_old w.drew _ hk
 have hs1:W1.heap.size=w.heap.size+1:=by rw[hW1];show(w.heap.push _).size=_;simp
 have hdl:(L.drop i).length=n-i:=by rw[List.length_drop,hL]
 have hcpA: ∀(W:World),W.heap=W1.heap→ ∀ty dc,(Builtin.copy_ #[29,29] ty #[.slice (some ⟨w.heap.size,i,none⟩) (n+m-i) dc,.slice (some ⟨vb,0,none⟩) m vc]).run Tryz.prog W= .ok (goInt vs.length) (W.setCells w.heap.size i vs):=fun W hW ty dc=>
  cp_run T29 S22 (W:=W) (c:=ROW) (c2:=cx) (by rw[hW];exact hN) (by rw[hW,hO vb hvw];exact hx) _ _ _ _ _ _ _ (by rw[hv];simp only[Nat.min_def];split<;>omega) (by omega) (fun j v hj=>by rw[Nat.zero_add];exact hx0 j v hj) h1x ty
 obtain⟨c1,k1,k2,k3,k4⟩:=setCells_row vs i W1 ROW hN (by omega)
 obtain⟨f1,f2,f3,f4,f5⟩:=setCells_fr w.heap.size vs i W1
 have hcpB: ∀(W:World),W.heap=(W1.setCells w.heap.size i vs).heap→ ∀ty dc sc,(Builtin.copy_ #[29,29] ty #[.slice (some ⟨w.heap.size,i+m,none⟩) (n+m-(i+m)) dc,.slice (some ⟨b,i,none⟩) (n-i) sc]).run Tryz.prog W= .ok (goInt (L.drop i).length) (W.setCells w.heap.size (i+m) (L.drop i)):=fun W hW ty dc sc=>
  cp_run T29 S22 (W:=W) (c:=c1) (c2:=cl) (by rw[hW];exact k1) (by rw[hW,f5 b (by omega),hO b hbw];exact hb) _ _ _ _ _ _ _ (by rw[hdl];simp only[Nat.min_def];split<;>omega) (by omega)
   (fun j v hj=>hat _ v (by rwa [List.getElem?_drop]at hj)) (fun v hv=>h1 v (List.mem_of_mem_drop hv)) ty
 obtain⟨c2,q1,q2,q3,q4⟩:=setCells_row (L.drop i) (i+m) (W1.setCells w.heap.size i vs).drew c1 k1 (by omega)
 obtain⟨p1,p2,p3,p4,p5⟩:=setCells_fr w.heap.size (L.drop i) (i+m) (W1.setCells w.heap.size i vs).drew
 have hlen:(L.take i++(vs++L.drop i)).length=n+m:=by simp only[List.length_append,List.length_take,hdl];omega
 have hfin:InsAt w b (L.take i++(vs++L.drop i)) (.returned (.slice (some ⟨w.heap.size,0,none⟩) (n+m) G)) ((W1.setCells w.heap.size i vs).drew.setCells w.heap.size (i+m) (L.drop i)):=by
  have e4:(W1.setCells w.heap.size i vs).drew.heap.size=w.heap.size+1:=f4.trans hs1
  refine⟨w.heap.size,G,c2,22,by rw[hlen],by omega,hGm,by omega,q1,fun j hj=> ?_,.inr (Nat.le_refl _),by rw[p4,e4];omega,p1.trans (f1.trans (by rw[hW1];rfl)),p2.trans (f2.trans (by rw[hW1];rfl)),
   p3.trans (f3.trans (by rw[hW1];rfl)),by rw[p4,e4];omega,fun k hk hkb=>(p5 k (by omega)).trans ((f5 k (by omega)).trans (hO k hk))⟩
  rw[hlen]at hj
  have ht:(L.take i).length=i:=by rw[List.length_take];omega
  by_cases j1:j<i
  ·rw[q3 j (by omega),k3 j (by omega),hRat j j1,List.getElem?_append_left (by omega),List.getElem?_take,if_pos j1]
  ·rw[List.getElem?_append_right (by omega),ht]
   by_cases j2:j<i+m
   ·have:=k4 (j-i) (by omega)
    rw[show i+(j-i)=j by omega]at this
    rw[q3 j (by omega),this,List.getElem?_append_left (by omega)]
   ·have:=q4 (j-(i+m)) (by omega)
    rw[show i+m+(j-(i+m))=j by omega]at this
    rw[this,List.getElem?_append_right (by omega),hv,Nat.sub_sub]
 subst hW1
 have hF:((w.alloc (.cells ROW 22)).drew.setCells w.heap.size i vs).drew.heap=((w.drew.alloc (.cells ROW 22)).setCells w.heap.size i vs).heap:=rfl
 have hGi: ¬(G=i):=by omega
 have hGim: ¬(G=i+m):=by omega
 have hci: ¬(c=i):=by omega
 have hw1:IntKind.i64.wrap ((i:Int)+(m:Int))=(i:Int)+(m:Int):=by rw[IntKind.wrap_i64];omega
 have hb1:(0:Int)≤(i:Int)+(m:Int):=by omega
 have hin:i≤n:=by omega
 have htn:((i:Int)+(m:Int)).toNat=i+m:=by omega
 have hb3:(i:Int)≤(n:Int):=by omega
 clear hkk hik hold hROW hRl hRat hN hO hs1 k1 k2 k3 k4 f1 f2 f3 f4 f5 q1 q2 q3 q4 p1 p2 p3 p4 p5 hlen hi0 hz0 hzs hzb
 go_enter H1075,tm1075
 go_wp2_with (at_builtin;refine Lib.wpList_append_run _ rfl _ _ _ _ rfl _ _ rfl rfl _ _ (hrz _) ?_)
 rw[hcpA (w.alloc (.cells ROW 22)).drew rfl 3 (G-i)]
 go_wp2
 go_region_law_o (refine step_copy_runI rfl _ _ 29 29 rfl (.slice (some ⟨w.heap.size,i+m,none⟩) (n+m-(i+m)) (G-(i+m))) (.slice (some ⟨b,i,none⟩) (n-i) (c-i)) (by simp [Act.eval,Act.put]) (by simp [Act.eval,Act.put]) (hcpB ((w.alloc (.cells ROW 22)).drew.setCells w.heap.size i vs).drew hF 3 (G-(i+m)) (c-i)) ?_)
 go_wp2
 go_ret
 exact hfin
end
end Go.AM.Seat
