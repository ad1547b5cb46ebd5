import Derived.Test.YthnonmlhgafalaaGreatZSeTab
import Derived.Test.YthnonmlhgafalaaGreatZAmLast
import Derived.Test.YthnonmlhgafalaaGreatZM18
import Derived.Tactics
import Derived.Tactics2
import Derived.WalkKit
import Derived.WalkSpells
import Derived.Laws.Pointers
import Derived.Lib.AppendZeros
import Derived.KernelRfl
set_option linter.unusedVariables false
set_option linter.unusedSimpArgs false
namespace Go.AM.Seat
open Go Go.Proofs
theorem tm446:F446.ntmps=27:=by kernel_rfl
theorem grow_any (W:World) (n:Nat) (hn:n≤1000000):Calls Tryz.prog N446 #[.slice none 0 0,.int .i64 n] W fun e w'=> ∃v,e= .returned v∧
 ((n=0∧v= .slice none 0 0∧w'=W)∨ ∃c cells E,n≤c∧c≤9223372036854775807∧v= .slice (some ⟨W.heap.size,0,none⟩) 0 c∧c≤cells.size∧w'=(W.alloc (.cells cells E)).drew):=by
 have h0:(0:Int)≤(n:Int):=Int.natCast_nonneg _
 have hb:Tryz.t22.bytes=8:=by kernel_rfl
 have hs:Builtin.nextslicecap n 0=n:=by
  rcases Nat.eq_zero_or_pos n with rfl|h
  ·rfl
  ·unfold Builtin.nextslicecap;rw[if_pos (by omega)]
 have g1:=grownCap_ge W n 0 22
 have g2:=grownCap_le_maxLen W n 0 22 (by unfold maxLen;omega)
 go_enter H446,tm446
 go_wp2_with fail
 all_goals simp only[hb,hs]at*
 all_goals (try (exfalso;omega))
 all_goals go_ret
 ·refine⟨_,rfl, ?_⟩
  refine⟨_,g1, ?_,rfl,_, ?_,_,rfl⟩
  ·unfold maxLen at g2;omega
  ·simp only[Array.size_append,Builtin.zeroCells,Array.size_map,Array.size_range]
   show grownCap W n 0 22≤n*1+(grownCap W n 0 22-n)*1
   omega
 ·exact⟨_,rfl,.inl ⟨by omega,rfl,rfl⟩⟩
open Go.AM
def s446:Sp:= .fn [.raw,.v I] fun x=>match x.1 with
 | .one .nils=>(decide (0≤x.2)&&decide (x.2≤1000000),.arr true U [])
 |_=>(false,AV.junk)
theorem g446:GoodS Tryz.prog N446 s446:=by
 refine .fn (callable_of H446 (bd rfl) (by kernel_rfl)) fun x r hw h=> ?_
 obtain⟨c,n⟩:=x
 simp only at h
 split at h
 ·simp only[Prod.mk.injEq,Bool.and_eq_true,decide_eq_true_eq]at h
  obtain⟨⟨h0,h1⟩,rfl⟩:=h
  intro w okA vs hA hargs
  obtain⟨n,rfl⟩: ∃m:Nat,(m:Int)=n:=⟨n.toNat,Int.toNat_of_nonneg h0⟩
  cases hargs with
  |cons ha t=>
  cases t with
  |cons hb t=>
  cases t
  rename_i v1 v2
  have e1:v1= .slice none 0 0:=ha
  have e2:v2= .int .i64 (n:Int):=hb.1
  subst e1 e2
  refine(grow_any w n (Int.ofNat_le.1 h1)).mono fun e w' hh=> ?_
  obtain⟨v,rfl,⟨_,rfl,rfl⟩|⟨c,cells,E,g1,g2,rfl,g3,rfl⟩⟩:=hh
  ·refine⟨_,rfl,⟨rfl,rfl,rfl,Nat.le_refl _,fun _ _ _=>rfl⟩,fun fr b=>False,fun fr b h=>h.elim,fun b h=>h,⟨⟨none,0,0⟩,rfl,⟨rfl,Nat.le_refl _,by decide,.inl ⟨rfl,rfl,rfl⟩⟩,fun b hb=>(by cases hb)⟩⟩
  ·have hg:World.grownBy w (w.alloc (Obj.cells cells E)) none:=World.grownBy_alloc w (Obj.cells cells E) none
   have hh:=heap_alloc_new w (Obj.cells cells E)
   refine⟨_,rfl,⟨hg.os,hg.tape,hg.output,hg.size,fun k hk _=>hg.block k hk (by simp)⟩,fun fr b=>False,fun fr b h=>h.elim,fun b h=>h,
    ⟨⟨some w.heap.size,0,c⟩,rfl,⟨rfl,Nat.zero_le _,g2,.inr ⟨w.heap.size,cells,E,rfl,hh, ?_,fun j hj=>absurd hj (Nat.not_lt_zero _)⟩⟩,fun b hb=> ?_⟩⟩
   ·show c*1≤_
    omega
   ·cases hb
    refine⟨Nat.le_refl _, ?_,fun h=>h⟩
    show w.heap.size<(w.alloc (Obj.cells cells E)).heap.size
    simp
 ·cases h
end Go.AM.Seat
