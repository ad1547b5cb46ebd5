import Derived.Test.YthnonmlhgafalaaGreatZSeOr
import Derived.RangeFuncNested
import Derived.RangeFuncLeaves
import Derived.RangeFuncBox
import Derived.Shelf.Abstract
import Derived.WalkKit
import Derived.OwnWalkIn
import Derived.TacticsInMore
import Derived.LoopNIn
import Derived.LoopIn
import Derived.Maps.AppendAt
set_option linter.unusedVariables false
set_option linter.unusedSimpArgs false
set_option maxRecDepth 100000
namespace Go.AM.Seat
open Go Go.AM Go.Proofs Go.Shelf Go.RowKit
attribute [local go_sem] Oper.semAt_some
theorem tm420:F420.ntmps=16:=by kernel_rfl
theorem tm438:F438.ntmps=13:=by kernel_rfl
def vQ (x:Int×Int):Go.Value:= .agg #[.int .u64 x.1,.int .u64 x.2]
theorem take_snocQ {zs:List (Int×Int)} {k:Nat} (h:k<zs.length):zs.take (k+1)=zs.take k++[zs[k]]:=List.take_succ_eq_append_getElem h
theorem vals_in (F:Fence) (n:Nat) (h7:F.fn N420) (hro:F.round=none) (hn:1≤n) (l Bs n₀ b off cap:Nat) (zs:List (Int×Int)) (hlen:zs.length≤1000000) (hb:b<n₀) (J Jx:List (Int×Int)→World→Prop) (W:World) (hn₀:n₀≤W.heap.size) (hJ:AbidesFrom W.heap.size J)
 (hY: ∀pre x W1,J pre W1→pre.length<zs.length→YieldAt F (n-1) Tryz.prog l #[vQ x] W1 fun e W'=>
  (e= .returned (.bool true)∧J (pre++[x]) W'∧Below n₀ W1 W')∨(e= .returned (.bool false)∧Jx (pre++[x]) W'))
 (hBs:W.cell? ⟨Bs,0,none⟩=some (.slice (some ⟨b,off,none⟩) zs.length cap)) (hc: ∀j (h:j<zs.length),W.cell? ⟨b,off+j*2,none⟩=some (.int .u64 zs[j].1)∧W.cell? ⟨b,off+j*2+1,none⟩=some (.int .u64 zs[j].2)) (h0:J [] W):
 CallsIn F n Tryz.prog N420 #[.func (.yield l) #[] #[],.pointer (some ⟨Bs,0,none⟩)] W fun e W'=>(∃v,e= .returned v)∧
  ((∃ys,ys=zs∧J ys W')∨(∃pre,pre <+: zs∧Jx pre W')):=by
 have hl0:(0:Int)≤(zs.length:Int):=Int.natCast_nonneg _
 refine callsIn_of_wp H420 rfl h7 ?_ hro
 simp only[tm420,List.size_toArray,List.length_cons,List.length_nil,Nat.reduceAdd,Nat.reduceSub,Array.replicate_succ,Array.replicate_zero,List.push_toArray,List.append_toArray,List.nil_append,List.cons_append]
 gi_wp2
 gi_loopw [7] (fun i wr=> ∃k:Nat,k≤zs.length∧i= .int .i64 k∧J (zs.take k) wr∧Below n₀ W wr)
  (fun i _=>zs.length-(ivO i).toNat)
 case atStart=>exact⟨0,Nat.zero_le _,rfl,h0,Below.refl _ _⟩
 case round=>
  obtain⟨k,hk,rfl,hJs,hnx⟩:=hrel
  by_cases hlt:k<zs.length
  ·obtain⟨e1,e2⟩:=hc k hlt
   have c1:wr.cell? ⟨b,off+k*2,none⟩=some (.int .u64 zs[k].1):=(hnx.cell (p:=⟨b,off+k*2,none⟩) hb).trans e1
   have c2:wr.cell? ⟨b,off+k*2+1,none⟩=some (.int .u64 zs[k].2):=(hnx.cell (p:=⟨b,off+k*2+1,none⟩) hb).trans e2
   have hk0:(0:Int)≤(k:Int):=Int.natCast_nonneg _
   have hk1:(k:Int)<(zs.length:Int):=by omega
   have hJa: ∀o,J (zs.take k) (wr.alloc o):=fun o=>hJ _ _ _ none hJs (World.grownBy_alloc wr o none) (fun r e=>by cases e)
   obtain⟨⟨x1,x2⟩,hx⟩: ∃x,zs[k]=x:=⟨_,rfl⟩
   rw[hx]at c1 c2
   clear e1 e2 hc
   obtain⟨fn,tmps,assign,body,hy,hR⟩:=hY (zs.take k) (x1,x2) (wr.alloc (.cells #[.int .u64 x1,.int .u64 x2] 79)) (hJa _) (by rw[List.length_take];omega)
   have hsz:wr.heap.size<wr.heap.size+1:=Nat.lt_succ_self _
   simp only[vQ]at hy
   gi_wp2
   refine hR.mono ?_
   rintro e W3 (⟨rfl,hJ3,hk3⟩|⟨rfl,hJx3⟩)
   ·gi_wp2
    go_roundw
    case rel=>
     refine⟨k+1,by omega,by simp, ?_,hnx.trans (((Below.refl n₀ wr).alloc (Nat.le_trans hn₀ hnx.size) _).trans hk3)⟩
     rw[take_snocQ hlt,hx];exact hJ3
    case measure=>simp [ivO];omega
   ·gi_wp2
    refine bodyPost_ret (results_none rfl _ _ _) rfl ?_
    refine⟨⟨_,rfl⟩,.inr ⟨zs.take (k+1),List.take_prefix _ _, ?_⟩⟩
    rw[take_snocQ hlt,hx];exact hJx3
  ·obtain rfl:k=zs.length:=by omega
   rw[List.take_length]at hJs
   gi_wp2
   go_end0
   exact⟨⟨_,rfl⟩,.inl ⟨_,rfl,hJs⟩⟩
theorem vals0_in (F:Fence) (n:Nat) (h7:F.fn N420) (hro:F.round=none) (l Bs:Nat) (A:Option Addr) (cap:Nat) (J:List (Int×Int)→World→Prop) (W:World) (hBs:W.cell? ⟨Bs,0,none⟩=some (.slice A 0 cap)) (h0:J [] W):
 CallsIn F n Tryz.prog N420 #[.func (.yield l) #[] #[],.pointer (some ⟨Bs,0,none⟩)] W fun e W'=>(∃v,e= .returned v)∧J [] W':=by
 refine callsIn_of_wp H420 rfl h7 ?_ hro
 simp only[tm420,List.size_toArray,List.length_cons,List.length_nil,Nat.reduceAdd,Nat.reduceSub,Array.replicate_succ,Array.replicate_zero,List.push_toArray,List.append_toArray,List.nil_append,List.cons_append]
 gi_wp2
 gi_loopw [7] (fun i wr=>i= .int .i64 0∧J [] wr) (fun _ _=>0)
 case atStart=>exact⟨rfl,h0⟩
 case round=>
  obtain⟨rfl,hJs⟩:=hrel
  gi_wp2
  go_end0
  exact⟨⟨_,rfl⟩,hJs⟩
def SubsAt (n₀:Nat) (W:World) (sv:Go.Value) (zs:List (Int×Int)):Prop:=
 (∃A cap,sv= .slice A 0 cap∧zs=[])∨ ∃b off cap,sv= .slice (some ⟨b,off,none⟩) zs.length cap∧b<n₀∧ ∀j (h:j<zs.length),W.cell? ⟨b,off+j*2,none⟩=some (.int .u64 zs[j].1)∧W.cell? ⟨b,off+j*2+1,none⟩=some (.int .u64 zs[j].2)
theorem SubsAt.below {n₀:Nat} {A B:World} (h:Below n₀ A B) {sv:Go.Value} {zs:List (Int×Int)}:SubsAt n₀ A sv zs→SubsAt n₀ B sv zs
 | .inl e=> .inl e
 | .inr ⟨b,off,cap,e,hb,hc⟩=> .inr ⟨b,off,cap,e,hb,fun j hj=>⟨(h.cell (p:=⟨b,off+j*2,none⟩) hb).trans (hc j hj).1,(h.cell (p:=⟨b,off+j*2+1,none⟩) hb).trans (hc j hj).2⟩⟩
theorem vals_stops (F:Fence) (n:Nat) (h7:F.fn N420) (hro:F.round=none) (hn:1≤n) (Bs n₀:Nat) (sv:Go.Value) (zs:List (Int×Int)) (hlen:zs.length≤1000000) (w:World) (hBs:Bs<w.heap.size) (hn₀:n₀≤w.heap.size)
 (hc:w.cell? ⟨Bs,0,none⟩=some sv) (hI:SubsAt n₀ w sv zs):
 SeqStopsK F n Tryz.prog N420 #[.pointer (some ⟨Bs,0,none⟩)] (fun x:Int×Int=> #[vQ x]) (Below n₀) (fun ys=>ys=zs) (fun pre=>pre <+: zs) zs.length w:=fun l J Jx W hW hJ _ hY h0=>by
 have hc':=(hW.cell (p:=⟨Bs,0,none⟩) hBs).trans hc
 rcases hI.below (hW.mono hn₀)with⟨A,cap,rfl,rfl⟩|⟨b,off,cap,rfl,hb,hcs⟩
 ·exact(vals0_in F n h7 hro l Bs A cap J W hc' h0).mono fun e W' ⟨he,hj⟩=>⟨he,.inl ⟨_,rfl,hj⟩⟩
 ·exact vals_in F n h7 hro hn l Bs n₀ b off cap zs hlen hb J Jx W (Nat.le_trans hn₀ hW.size) hJ hY hc' hcs h0
theorem infoSub:(Tryz.prog.info? 79).map (fun i=>(i.zero,i.size,i.bytes))=some (some (.agg #[.int .u64 0,.int .u64 0]),2,16):=by kernel_rfl
def Boxed2 (W:World) (B:Nat) (x:Int×Int):Prop:=W.heap[B]? =some (.cells #[.int .u64 x.1,.int .u64 x.2] 79 (0,0))
theorem boxed2_own {β:Type} (B:Nat) (f:β→Int×Int):Own (fun s W=>Boxed2 W B (f s)):=fun s X Y row hs hg hrow=>by
 have hs:X.heap[B]? =_:=hs
 refine(hg.block B (Array.getElem?_eq_some_iff.1 hs).1 fun e'=> ?_).trans hs
 obtain⟨o,ho,hc⟩:=hrow B e'.symm
 rw[hs]at ho;cases ho;cases hc
theorem Boxed2.cells {W:World} {B:Nat} {x:Int×Int} (h:Boxed2 W B x):W.cell? ⟨B,0,none⟩=some (.int .u64 x.1)∧W.cell? ⟨B,1,none⟩=some (.int .u64 x.2):=by
 have h:W.heap[B]? =_:=h
 constructor<;>simp [World.cell?,h]
theorem cell_two_new (w:World) (x y:Go.Value) (t:TypeId): ∀j u,[x,y][j]? =some u→(w.alloc (.cells #[x,y] t)).cell? ((⟨w.heap.size,0,none⟩:Addr).add j)=some u:=by
 intro j u hj
 have e:(w.alloc (.cells #[x,y] t)).heap[w.heap.size]? =some (.cells #[x,y] t (0,0)):=World.alloc_heap_new w _
 match j,hj with
 |0,hj=>simp only[List.getElem?_cons_zero,Option.some.injEq]at hj;subst hj;show(match(w.alloc (.cells #[x,y] t)).heap[w.heap.size]? with|some (.cells c _ _)=>if(none:Option Nat).isSome then none else c[0+0]? |_=>none)=_;rw[e];rfl
 |1,hj=>simp only[List.getElem?_cons_succ,List.getElem?_cons_zero,Option.some.injEq]at hj;subst hj;show(match(w.alloc (.cells #[x,y] t)).heap[w.heap.size]? with|some (.cells c _ _)=>if(none:Option Nat).isSome then none else c[0+1]? |_=>none)=_;rw[e];rfl
 |j+2,hj=>simp at hj
def cellsQ (l:List (Int×Int)):List Go.Value:=l.flatMap fun x=>[.int .u64 x.1,.int .u64 x.2]
theorem cellsQ_snoc (pre:List (Int×Int)) (x:Int×Int):cellsQ (pre++[x])=cellsQ pre++[.int .u64 x.1,.int .u64 x.2]:=by unfold cellsQ;rw[List.flatMap_append];rfl
theorem app_in (F:Fence) (n:Nat) (h8:F.fn N438) (h7:F.fn N420) (hro:F.round=none) (hn:4≤n) (Bs:Nat) (sv:Go.Value) (zs:List (Int×Int)) (hlen:zs.length≤1000000) (w:World) (hBs:w.cell? ⟨Bs,0,none⟩=some sv) (hS:SubsAt w.heap.size w sv zs):
 CallsIn F n Tryz.prog N438 #[.slice none 0 0,.func (.func N420) #[] #[.pointer (some ⟨Bs,0,none⟩)]] w fun e W'=> ∃v,e= .returned v∧W'.ownsRow w.heap.size 79 2 v zs.length (cellsQ zs)∧Below w.heap.size w W':=by
 have h1:1≤n:=by omega
 have hBl:Bs<w.heap.size:=World.block_lt_of_cell? w _ hBs
 obtain⟨i0,hi,hz0,hz1,hz2⟩:=info_parts infoSub
 refine callsIn_of_wp_marks H438 rfl h8 ?_ hro
 simp only[tm438,List.size_toArray,List.length_cons,List.length_nil,Nat.reduceAdd,Nat.reduceSub,Array.replicate_succ,Array.replicate_zero,List.push_toArray,List.append_toArray,List.nil_append,List.cons_append]
 gi_wp2
 have bO:=Boxed.new w 55 (.slice none 0 0)
 have hB0:Below w.heap.size w (w.alloc (.cells #[.slice none 0 0] 55)):=(Below.refl _ w).alloc (Nat.le_refl _) _
 have hsz:(w.alloc (.cells #[.slice none 0 0] 55)).heap.size=w.heap.size+1:=by simp
 have hBs0:(w.alloc (.cells #[.slice none 0 0] 55)).cell? ⟨Bs,0,none⟩=some sv:=(hB0.cell (p:=⟨Bs,0,none⟩) hBl).trans hBs
 obtain⟨W0,hW0⟩: ∃W0,w.alloc (.cells #[.slice none 0 0] 55)=W0:=⟨_,rfl⟩
 rw[hW0]at bO hB0 hsz hBs0⊢
 clear hW0
 refine wpIn_rangeFunc_ownH hro h1 (gf:=N420) (lb:= #[.pointer (some ⟨Bs,0,none⟩)]) rfl h7 (enters_of H420 (by kernel_rfl) rfl)
  (vals_stops F (n-1) h7 hro (by omega) Bs w.heap.size sv zs hlen W0 (by omega) (by omega) hBs0 (hS.below hB0)) belowK_t (belowK_b (by omega)) (Below.refl _ _) (fun _=>rfl)
  (fun pre W=>(∃v,Boxed W w.heap.size 55 v∧W.ownsRow w.heap.size 79 2 v pre.length (cellsQ pre)∧True)∧Below w.heap.size w W)
  (fun _ _ _=>False)
  (OwnFrom.and (Own.from (holdsRow_own w.heap.size w.heap.size 55 79 2 (fun pre:List (Int×Int)=>pre.length) (fun pre=>cellsQ pre) (fun _ _=>True)) _) (ownFrom_below (Nat.le_refl _) (by omega)))
  (fun _ _ _ _ _ hs _ _=>hs)
  ⟨⟨_,bO,World.ownsRow_nil _ _ _ _,trivial⟩,hB0⟩
  (fun x a' W=> ∃Bx,w.heap.size<Bx∧Boxed2 W Bx x∧a'= { tmps:= #[.slice none 0 0,.func (.func N420) #[] #[.pointer (some ⟨Bs,0,none⟩)],.pointer (some ⟨w.heap.size,0,none⟩),undef,.slice none 0 0,.pointer (some ⟨Bx,0,none⟩),.func (.func N420) #[] #[.pointer (some ⟨Bs,0,none⟩)],vQ x,undef,undef,undef,undef,undef],defers:=[]})
  (fun x a' _ X Y row hs hg hr=>by obtain⟨Bx,h1,h2,h3⟩:=hs;exact⟨Bx,h1,boxed2_own Bx (fun(_:Unit)=>x) () X Y row h2 hg (fun r e=>(hr r e).2),h3⟩)
  ?assign ?body ?done ?stop
 case assign=>
  rintro l pre x W K ⟨⟨v,hv,hrow,_⟩,hB⟩ hK
  simp only[vQ]
  gi_wp2
  exact hK _ _ ((KeepsOthers.alloc _ _).from _) ((Below.refl _ W).alloc hB.size _) ⟨⟨v,hv.alloc _,hrow.alloc _,trivial⟩,hB.alloc hB.size _⟩ ⟨W.heap.size,hv.lt,World.alloc_heap_new W _,rfl⟩
 case body=>
  rintro l pre x a' W hl ⟨r,hr⟩ ⟨⟨v,hv,hrow,_⟩,hB⟩ ⟨Bx,hBx,bX,rfl⟩ hlt
  have hc:=hv.cell
  obtain⟨x1,x2⟩:=bX.cells
  have hle:=hB.size
  simp only[vQ]
  gi_wp2_with (gi_at_builtin;refine wpListIn_append_own _ rfl _ _ 55 rfl w.heap.size 79 i0 (.agg #[.int .u64 0,.int .u64 0]) 2 16 Tryz.underlying55 hi hz0 hz1 hz2 rfl (by decide) _ _ _ rfl (hrow.alloc _) ⟨W.heap.size,0,none⟩ 1 1 [.int .u64 x.1,.int .u64 x.2] rfl rfl (cell_two_new _ _ _ _) (by simp [Value.oneCell']) (by unfold maxLen;omega) (by omega) (by simp;omega) ?_;intro v' w1 hown' hgrow _;obtain⟨g',cap',rfl⟩:=ownsRow_succ hown';obtain⟨hv1,hv2,hr2,hk2,hb2⟩:=hv.appended (by decide) hrow hB.size (Nat.le_refl _) hown' hgrow;have hc1:=hv1.cell;have hf1:=hv1.frozen)
  exact⟨hk2.from _,hb2,⟨_,hv2,by rw[cellsQ_snoc];simpa using hr2,trivial⟩,hB.trans hb2⟩
 case done=>
  rintro D ys W hD rfl ⟨⟨v,hv,hrow,_⟩,hB⟩ hK
  have hc:=hv.cell
  gi_wp2
  refine⟨by simp,.inl ⟨_,_,rfl,run_takeDeferred hK, ?_⟩⟩
  exact⟨_,results_tmp rfl _ _ _,v,rfl,ownsRow_putObj hrow _ hK rfl,hB.trans (belowK_b (w:=w) (Nat.le_refl _) W D _ _ (by omega) hK rfl rfl)⟩
 case stop=>
  rintro D c pre W _ _ h _
  exact h.elim
end Go.AM.Seat
