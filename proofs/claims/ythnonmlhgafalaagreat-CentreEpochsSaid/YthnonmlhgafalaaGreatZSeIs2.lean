import Derived.Test.YthnonmlhgafalaaGreatZSeIs1
import Derived.Lib.AppendZeros
set_option linter.unusedVariables false
set_option linter.unusedSimpArgs false
set_option maxRecDepth 100000
namespace Go.AM.Seat
open Go Go.AM Go.Proofs Go.Lib
theorem ins_new (w:World) (b G:Nat) (L vs:List Value) (E:TypeId) (Z:Array Value) (hG:(L++vs).length≤G) (h63:G≤9223372036854775807) (hZ:Z.size=G-(L++vs).length) (e:Ending)
 (he:e= .returned (.slice (some ⟨w.heap.size,0,none⟩) (L++vs).length G)):InsAt w b (L++vs) e (w.drew.alloc (.cells ((L++vs).toArray++Z) E)):=by
 have hs1:(w.drew.alloc (.cells ((L++vs).toArray++Z) E)).heap.size=w.heap.size+1:=by show(w.heap.push _).size=_;simp
 exact⟨w.heap.size,G,_,E,he,hG,h63,by rw[Array.size_append,hZ];simp only[List.size_toArray];omega,heap_alloc_new w.drew _,fun j hj=>by rw[Array.getElem?_append_left (by simpa using hj)];simp,
  .inr (Nat.le_refl _),by rw[hs1];omega,rfl,rfl,rfl,by rw[hs1];omega,fun k hk _=>heap_alloc_old w.drew _ hk⟩
section
variable (w:World) (b n c vb m vc:Nat) (cl cx:Array Value) (E E2:TypeId) (L vs:List Value) (hL:L.length=n) (hv:vs.length=m) (hx:w.heap[vb]? =some (.cells cx E2))
 (hx0: ∀(j:Nat) (v:Value),vs[j]? =some v→cx[j]? =some v) (h1x: ∀v∈vs,v.oneCell'=true) (hm:0<m) (hn:n+m≤1000001)
include hL hv hx hx0 h1x hm hn
set_option maxHeartbeats 4000000 in
theorem ins_end (hb:w.heap[b]? =some (.cells cl E)) (hc:c≤cl.size) (hnc:n≤c) (hc63:c≤9223372036854775807) (hat: ∀(j:Nat) (v:Value),L[j]? =some v→cl[j]? =some v):
 Calls Tryz.prog N1075 #[.slice (some ⟨b,0,none⟩) n c,.int .i64 n,.slice (some ⟨vb,0,none⟩) m vc] w (InsAt w b (L++vs)):=by
 have hbw:b<w.heap.size:=by
  by_cases h:b<w.heap.size
  ·exact h
  ·rw[Array.getElem?_eq_none (by omega)]at hb;cases hb
 have mixed:=layCm.mixed
 obtain⟨i0,hi0,hz0,hzs,hzb⟩:=info_parts I22
 have hz1: ¬((m:Int)=0):=by omega
 have hsrc:Go.Src Tryz.prog 1 29 (.slice (some ⟨vb,0,none⟩) m vc) m vs w:=Go.Src.ofSlice w T29 ⟨vb,0,none⟩ m vc vs (by omega) (fun j u hj=>by
  rw[Addr.add_lit,Nat.zero_add];simp only[World.cell?,hx];exact hx0 j u hj) h1x
 have hlen:(L++vs).length=n+m:=by simp only[List.length_append];omega
 by_cases hroom:n+m≤c
 ·obtain⟨c2,q1,q2,q3,q4⟩:=setCells_row vs n w cl hb (by omega)
  obtain⟨p1,p2,p3,p4,p5⟩:=setCells_fr b vs n w
  have hfin:InsAt w b (L++vs) (.returned (.slice (some ⟨b,0,none⟩) (n+m) c)) (w.setCells b n vs):=by
   refine⟨b,c,c2,E,by rw[hlen],by omega,hc63,by omega,q1,fun j hj=> ?_,.inl rfl,by rw[p4];exact hbw,p1,p2,p3,Nat.le_of_eq p4.symm,fun k _ hkb=>p5 k hkb⟩
   rw[hlen]at hj
   by_cases j1:j<n
   ·rw[q3 j (by omega),List.getElem?_append_left (by omega)]
    have:=hat j L[j] (List.getElem?_eq_getElem (by omega))
    rw[this,List.getElem?_eq_getElem]
   ·have:=q4 (j-n) (by omega)
    rw[show n+(j-n)=j by omega]at this
    rw[this,List.getElem?_append_right (by omega),hL]
  have hcl: ∀j,j<vs.length→(w.cell? ⟨b,0+n+j,none⟩).isSome=true:=fun j hj=>by
   have:n+j<cl.size:=by omega
   simp [World.cell?,hb,this]
  have hfz: ∀j,j<vs.length→w.frozen? ⟨b,0+n+j,none⟩=false:=fun j hj=>by simp [World.frozen?,hb]
  clear p1 p2 p3 p4 p5 q1 q2 q3 q4
  go_enter H1075,tm1075
  go_wp2_with (at_builtin;refine wpList_append_room1 _ rfl _ _ 29 29 rfl 22 _ _ T29 I22 b 0 n c rfl _ rfl m vs hsrc hroom hcl hfz ?_)
  go_ret
  exact hfin
 ·have hold:(Builtin.firstCells i0.size n (.slice (some ⟨b,0,none⟩) n c)).run Tryz.prog w.drew= .ok L.toArray w.drew:=by
   rw[hzs]
   exact run_firstCells_some w.drew 1 n ⟨b,0,none⟩ n c L (by omega) (fun j v hj=>by
    rw[Addr.add_lit,Nat.zero_add]
    show(World.cell? w _)=_
    simp only[World.cell?,hb]
    exact hat j v hj)
  have hrun:=fun ty=>run_append_grow_src (P:=Tryz.prog) (w:=w) 29 29 ty 22 i0 _ T29 hi0 hz0 (some ⟨b,0,none⟩) n c L hold (.slice (some ⟨vb,0,none⟩) m vc) m vs (by rw[hzs];exact hsrc) (by omega) (by omega) (by rw[hzb];exact growslice_fits (by omega) (by omega))
  have hGn:=grownCap_ge w (n+m) c 22
  have hGm:=grownCap_le_maxLen w (n+m) c 22 (by unfold maxLen;omega)
  unfold maxLen at hGm
  generalize grownCap w (n+m) c 22=G at hrun hGn hGm
  have hfin:=ins_new w b G L vs 22 (Builtin.zeroCells (Value.int .u64 0).cells (G-(n+m))) (by omega) hGm (by rw[hlen];simp [Builtin.zeroCells,Value.cells]) _ rfl
  rw[hlen]at hfin
  go_enter H1075,tm1075
  go_wp2_with (at_builtin;refine Lib.wpList_append_run _ rfl _ _ _ _ rfl _ _ rfl rfl _ _ (hrun _) ?_)
  all_goals go_ret
  all_goals exact hfin
set_option maxHeartbeats 4000000 in
theorem ins_nil (h0:n=0):Calls Tryz.prog N1075 #[.slice none 0 0,.int .i64 ((0:Nat):Int),.slice (some ⟨vb,0,none⟩) m vc] w (InsAt w w.heap.size (L++vs)):=by
 have mixed:=layCm.mixed
 subst h0
 obtain⟨i0,hi0,hz0,hzs,hzb⟩:=info_parts I22
 have hz1: ¬((m:Int)=0):=by omega
 have hsrc:Go.Src Tryz.prog 1 29 (.slice (some ⟨vb,0,none⟩) m vc) m vs w:=Go.Src.ofSlice w T29 ⟨vb,0,none⟩ m vc vs (by omega) (fun j u hj=>by
  rw[Addr.add_lit,Nat.zero_add];simp only[World.cell?,hx];exact hx0 j u hj) h1x
 have hlen:(L++vs).length=0+m:=by simp only[List.length_append];omega
 have hold:(Builtin.firstCells i0.size 0 (.slice none 0 0)).run Tryz.prog w.drew= .ok L.toArray w.drew:=by
  rw[hzs,List.length_eq_zero_iff.1 hL]
  exact run_firstCells_none w.drew 1 0 0 0
 have hrun:=fun ty=>run_append_grow_src (P:=Tryz.prog) (w:=w) 29 29 ty 22 i0 _ T29 hi0 hz0 none 0 0 L hold (.slice (some ⟨vb,0,none⟩) m vc) m vs (by rw[hzs];exact hsrc) (by omega) (by omega) (by rw[hzb];exact growslice_fits (by omega) (by omega))
 have hGn:=grownCap_ge w (0+m) 0 22
 have hGm:=grownCap_le_maxLen w (0+m) 0 22 (by unfold maxLen;omega)
 unfold maxLen at hGm
 generalize grownCap w (0+m) 0 22=G at hrun hGn hGm
 have hfin:=ins_new w w.heap.size G L vs 22 (Builtin.zeroCells (Value.int .u64 0).cells (G-(0+m))) (by omega) hGm (by rw[hlen];simp [Builtin.zeroCells,Value.cells]) _ rfl
 rw[hlen]at hfin
 rw[Nat.zero_add]at hfin hrun
 go_enter H1075,tm1075
 go_wp2_with (at_builtin;refine Lib.wpList_append_run _ rfl _ _ _ _ rfl _ _ rfl rfl _ _ (hrun _) ?_)
 go_ret
 exact hfin
end
theorem insAt_back {w w':World} {okA:Nat→Prop} {μ:Locs} {gs:List AV} {b:Nat} {l':List Int} {e:Ending} (hlt: ∀b,okA b→b<w.heap.size) (hbm:(ioMine gs μ b∧ ¬okA b)∨w.heap.size≤b)
 (hok: ∀x∈l',IntKind.u64.has x) (h:InsAt w b (l'.map (.int .u64)) e w'): ∃v,e= .returned v∧Fr (ioMine gs μ) w w'∧ ∃(ok':OK) (μ':Locs),
  (∀fr b,ok' fr b→resOK w w' okA fr b)∧(∀b,ok' true b→ok' false b)∧AVRel w' μ' ok' (.one (.hot 0 none)) v∧OwnsOk w' μ' ok' [.arr true (.int .u64) l']∧
  (∀k b,(ownAt [.arr true (.int .u64) l'] k).isOwner=true→(μ' k).b=some b→w.heap.size≤b∨ioMine gs μ b)∧(∀k,k<0→μ' k=μ k):=by
 obtain⟨b',c',cl',E',rfl,h1,h2,h3,h4,h5,h6,h7,o1,o2,o3,o4,h8⟩:=h
 rw[List.length_map]at h1 h5
 have one: ∀(g:AV) (k:Nat),(ownAt [g] k).isOwner=true→k=0∧ownAt [g] k=g:=fun g k hk=>by
  cases k with
  |zero=>exact⟨rfl,rfl⟩
  |succ k=>unfold ownAt at hk;simp [AV.isOwner]at hk
 have e1:(Ty.int IntKind.u64).size=1:=rfl
 have hb9:ioMine gs μ b'∨w.heap.size≤b':=by
  rcases h6 with rfl|h6
  ·rcases hbm with h|h
   ·exact .inl h.1
   ·exact .inr h
  ·exact .inr h6
 have hn9: ¬okA b':=by
  rcases h6 with rfl|h6
  ·rcases hbm with h|h
   ·exact h.2
   ·exact fun g=>absurd (hlt _ g) (by omega)
  ·exact fun g=>absurd (hlt _ g) (by omega)
 refine⟨_,rfl,⟨o1,o2,o3,o4,fun k hk hm=>h8 k hk fun e=> ?_⟩,argOK okA,fun k=>match k with|0=>⟨some b',l'.length,c'⟩|k+1=>μ (k+1),fun fr b h=> .inr h,fun b h=>absurd h.1 (by simp),
  ⟨by simp [slv],fun m h=>(by cases h),by show l'.length≤_;omega⟩,⟨fun k=> ?_,fun k b'' hk hb'=> ?_,fun j k b'' hj hk _ _=> ?_⟩,fun k b'' hk hb'=> ?_,fun k hk=>absurd hk (Nat.not_lt_zero _)⟩
 ·subst e
  rcases hbm with h|h
  ·exact hm h.1
  ·omega
 ·cases k with
  |succ k=>unfold ownAt;simp [OwnRel]
  |zero=>
   refine⟨rfl,h1,h2,.inr ⟨b',cl',E',rfl,h4, ?_,fun j hj=> ?_⟩⟩
   ·show c'*1≤_
    omega
   ·refine⟨[.int .u64 l'[j]],⟨rfl,hok _ (List.getElem_mem hj)⟩,fun q hq=> ?_⟩
    obtain rfl:q=0:=by simp at hq;exact hq
    rw[e1,Nat.mul_one,Nat.add_zero,h5 j hj]
    simp [hj]
 ·obtain⟨rfl,_⟩:=one _ k hk
  cases hb'
  exact⟨h7,fun g=>hn9 g.2⟩
 ·rw[(one _ j hj).1,(one _ k hk).1]
 ·obtain⟨rfl,_⟩:=one _ k hk
  cases hb'
  exact hb9.symm
def insL (i:Nat) (x:Int) (l:List Int):List Int:=l.take i++x::l.drop i
theorem io1075 (l:List Int) (x:Int) (i:Nat) (f g:Bool) (hi:i≤l.length) (hl:l.length≤1000000):
 GoodIO Tryz.prog N1075 [.one (.hot 0 none),.one (.int .i64 i),.one (.hot 1 none)] 0 [.arr f (.int .u64) l,.arr g (.int .u64) [x]] (.one (.hot 0 none)) [.arr true (.int .u64) (insL i x l)]:=by
 intro w okA vs μ hA hargs hO
 cases hargs with
 | @cons _ v1 _ _ hx1 t=>
 cases t with
 | @cons _ v2 _ _ hx2 t=>
 cases t with
 | @cons _ v3 _ _ hx3 t=>
 cases t
 obtain⟨rfl,_,_⟩:=(hx1:SVRel0 w μ (argOK okA) (.hot 0 none) v1)
 obtain⟨rfl,_,_⟩:=(hx3:SVRel0 w μ (argOK okA) (.hot 1 none) v3)
 have e2:v2= .int .i64 (i:Int):=hx2.1
 subst e2
 have hmap: ∀(l:List Int) (c:Array Value),(∀j (h:j<l.length),c[j]? =some (.int .u64 l[j]))→ ∀(j:Nat) (v:Value),(l.map (Value.int .u64))[j]? =some v→c[j]? =some v:=fun l c h j v hv=>by
  rw[List.getElem?_map]at hv
  obtain⟨y,hy,rfl⟩:=Option.map_eq_some_iff.1 hv
  obtain⟨hj,rfl⟩:=List.getElem?_eq_some_iff.1 hy
  exact h j hj
 have h1c: ∀l:List Int,∀v∈l.map (Value.int .u64),v.oneCell'=true:=fun l v hv=>by
  obtain⟨y,_,rfl⟩:=List.mem_map.1 hv
  rfl
 have e1:(Ty.int IntKind.u64).size=1:=rfl
 have cell: ∀ {k:Nat} {fr:Bool} {l:List Int} {c:Array Value},(∀j (h:j<l.length),∃cs,TRel w (argOK okA fr) (.int .u64) l[j] cs∧ ∀q (hq:q<cs.length),c[j*(Ty.int IntKind.u64).size+q]? =some cs[q])→
  (∀j (h:j<l.length),c[j]? =some (.int .u64 l[j]))∧ ∀y∈l,IntKind.u64.has y:=fun {k fr l c} hcs=>⟨fun j h=>by
  obtain⟨cs,t1,t2⟩:=hcs j h
  have hcs1:cs=[.int .u64 l[j]]:=t1.1
  subst hcs1
  have:=t2 0 (by simp)
  rw[e1,Nat.mul_one,Nat.add_zero]at this
  exact this,fun y hy=>by
  obtain⟨j,hj,rfl⟩:=List.getElem_of_mem hy
  obtain⟨cs,t1,_⟩:=hcs j hj
  exact t1.2⟩
 obtain⟨x1,x2,x3,x4⟩:=(hO.own 1:OwnRel w μ (argOK okA) 1 (.arr g (.int .u64) [x]))
 obtain⟨vb,cx,E2,hxb,hxh,hxc,hxs⟩: ∃b c E,(μ 1).b=some b∧w.heap[b]? =some (.cells c E (0,0))∧(μ 1).cap*(Ty.int IntKind.u64).size≤c.size∧ ∀j (h:j<[x].length),∃cs,TRel w (argOK okA g) (.int .u64) [x][j] cs∧ ∀q (hq:q<cs.length),c[j*(Ty.int IntKind.u64).size+q]? =some cs[q]:=by
  rcases x4 with⟨_,h,_⟩|h
  ·cases h
  ·exact h
 obtain⟨y1,y2⟩:=cell (k:=1) hxs
 obtain⟨h1,h2,h3,h4⟩:=(hO.own 0:OwnRel w μ (argOK okA) 0 (.arr f (.int .u64) l))
 have s1:slv (μ 1) none= .slice (some ⟨vb,0,none⟩) [Value.int .u64 x].length (μ 1).cap:=by unfold slv;rw[hxb,Option.getD_none,x1];rfl
 have hres:(insL i x l).map (Value.int .u64)=(l.map (Value.int .u64)).take i++([Value.int .u64 x]++(l.map (Value.int .u64)).drop i):=by unfold insL;simp
 have hlm:(l.map (Value.int .u64)).length=l.length:=List.length_map _
 rcases h4 with⟨hb,rfl,hc⟩|⟨b,c,E,hb,hblk,hcap,hcs⟩
 ·obtain rfl:i=0:=by simpa using hi
  have e:slv (μ 0) none= .slice none 0 0:=by unfold slv;rw[hb,hc,Option.getD_none,h1];rfl
  rw[e,s1]
  refine(ins_nil w 0 vb [Value.int .u64 x].length (μ 1).cap cx E2 [] [.int .u64 x] rfl rfl hxh (hmap [x] cx y1) (h1c [x]) (by simp) (by simp) rfl).mono fun e w' hh=> ?_
  exact insAt_back (l':=insL 0 x []) hA.1.lt (.inr (Nat.le_refl _)) (fun y hy=>y2 y hy) hh
 ·obtain⟨z1,z2⟩:=cell (k:=0) hcs
  have hne:vb≠b:=fun e=>by
   subst e
   have:=hO.inj 0 1 vb rfl rfl hb hxb
   cases this
  have e:slv (μ 0) none= .slice (some ⟨b,0,none⟩) l.length (μ 0).cap:=by unfold slv;rw[hb,Option.getD_none,h1];rfl
  rw[e1,Nat.mul_one]at hcap
  rw[e,s1]
  have hbm:(ioMine [.arr f (.int .u64) l,.arr g (.int .u64) [x]] μ b∧ ¬okA b)∨w.heap.size≤b:= .inl ⟨⟨0,rfl,hb⟩,fun g=>(hO.blk 0 b rfl hb).2 ⟨rfl,g⟩⟩
  have hhas: ∀y∈insL i x l,IntKind.u64.has y:=fun y hy=>by
   unfold insL at hy
   rcases List.mem_append.1 hy with h|h
   ·exact z2 y (List.mem_of_mem_take h)
   ·rcases List.mem_cons.1 h with rfl|h
    ·exact y2 y (List.mem_singleton_self y)
    ·exact z2 y (List.mem_of_mem_drop h)
  by_cases hil:i=l.length
  ·subst hil
   refine(ins_end w b l.length (μ 0).cap vb [Value.int .u64 x].length (μ 1).cap c cx E E2 (l.map (.int .u64)) [.int .u64 x] hlm rfl hxh (hmap [x] cx y1) (h1c [x]) (by simp) (by simp;omega) hblk hcap (by omega) h3 (hmap l c z1)).mono fun e w' hh=> ?_
   refine insAt_back (l':=insL l.length x l) hA.1.lt hbm hhas ?_
   rw[hres,←hlm,List.take_length,List.drop_length,List.append_nil]
   exact hh
  ·have hi2:i<l.length:=by omega
   have hgo:Calls Tryz.prog N1075 #[.slice (some ⟨b,0,none⟩) l.length (μ 0).cap,.int .i64 i,.slice (some ⟨vb,0,none⟩) [Value.int .u64 x].length (μ 1).cap] w (InsAt w b ((l.map (Value.int .u64)).take i++([Value.int .u64 x]++(l.map (Value.int .u64)).drop i))):=by
    by_cases hroom:l.length+[Value.int .u64 x].length≤(μ 0).cap
    ·exact ins_shift w b l.length (μ 0).cap i vb _ (μ 1).cap c cx E E2 (l.map (.int .u64)) [.int .u64 x] hlm rfl hblk hxh hne hcap (by omega) (hmap l c z1) (hmap [x] cx y1) (h1c l) (h1c [x]) hi2 (by simp) (by simp;omega) h3 hroom
    ·exact ins_grow w b l.length (μ 0).cap i vb _ (μ 1).cap c cx E E2 (l.map (.int .u64)) [.int .u64 x] hlm rfl hblk hxh (by omega) (hmap l c z1) (hmap [x] cx y1) (h1c l) (h1c [x]) hi2 (by simp) (by simp;omega) h3 (by omega)
   refine hgo.mono fun e w' hh=> ?_
   exact insAt_back (l':=insL i x l) hA.1.lt hbm hhas (by rw[hres];exact hh)
end Go.AM.Seat
