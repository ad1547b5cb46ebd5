import Derived.Test.YthnonmlhgafalaaGreatZSeSf
import Derived.Test.YthnonmlhgafalaaGreatZM30
import Derived.Tactics
import Derived.Tactics2
import Derived.WalkKit
import Derived.WalkSpells
import Derived.Laws.Pointers
import Derived.Deep.RegionHeld3
import Derived.KernelRfl
set_option linter.unusedVariables false
set_option linter.unusedSimpArgs false
set_option maxRecDepth 100000
namespace Go.AM.Seat
open Go Go.AM Go.Proofs Go.Shelf Go.Sort
theorem tm421:F421.ntmps=6:=by kernel_rfl
theorem tm398:F398.ntmps=20:=by kernel_rfl
theorem tm397:F397.ntmps=18:=by kernel_rfl
theorem tm393:F393.ntmps=17:=by kernel_rfl
theorem tm396:F396.ntmps=17:=by kernel_rfl
theorem nan_any (x:Int) (W:World):Calls Tryz.prog N421 #[.int .u64 x] W fun e w'=>e= .returned (.bool false)∧w'=W:=by
 go_enter H421,tm421
 go_wp2_with fail
 all_goals go_ret
 all_goals simp
def cmpI (x y:Int):Int:=if x<y then -1 else if y<x then 1 else 0
theorem cmp_any (x y:Int) (W:World):Calls Tryz.prog N398 #[.int .u64 x,.int .u64 y] W fun e w'=>e= .returned (.int .i64 (cmpI x y))∧w'=W:=by
 have h:=nan_any
 change ∀x W,Calls Tryz.prog 232 _ _ _ at h
 unfold cmpI
 go_enter H398,tm398
 go_wp2_with (go_at_call 232;refine(h _ _).mono ?_;rintro e w' ⟨rfl,rfl⟩)
 all_goals go_ret
 all_goals refine⟨?_,rfl⟩
 all_goals first
  |rfl
  |(rw[if_pos (by omega)];done)
  |(rw[if_neg (by omega),if_pos (by omega)];done)
  |(rw[if_neg (by omega),if_neg (by omega)];done)
  |trace_state
def ivO (v:Go.Value):Int:=match v with| .int _ n=>n|_=>0
def orI2 (a b:Int):Int:=if a=0 then b else a
theorem or_any (a b:Int) (g:Nat) (W:World) (h0:W.cell? ⟨g,0,none⟩=some (.int .i64 a)) (h1:W.cell? ⟨g,1,none⟩=some (.int .i64 b)):
 Calls Tryz.prog N397 #[.slice (some ⟨g,0,none⟩) 2 2] W fun e w'=>e= .returned (.int .i64 (orI2 a b))∧w'=W:=by
 unfold orI2
 go_enter H397,tm397
 go_wp2_with fail
 go_loopw [8] (fun i wl=>wl=W∧(i= .int .i64 0∨(i= .int .i64 1∧a=0)∨(i= .int .i64 2∧a=0∧b=0))) (fun i _=>2-(ivO i).toNat)
 case atStart=>exact⟨rfl,.inl rfl⟩
 case round=>
  obtain⟨rfl,rfl|⟨rfl,ha⟩|⟨rfl,ha,hb⟩⟩:=hrel
  ·by_cases ha:a=0
   ·subst ha
    go_wp2_with fail
    go_roundw
    case rel=>simp
    case measure=>simp [ivO]
   ·go_wp2_with fail
    all_goals go_ret
    all_goals exact⟨rfl,rfl⟩
  ·subst ha
   by_cases hb:b=0
   ·subst hb
    go_wp2_with fail
    go_roundw
    case rel=>simp
    case measure=>simp [ivO]
   ·go_wp2_with fail
    all_goals go_ret
    all_goals exact⟨rfl,rfl⟩
  ·subst ha hb
   go_wp2_with fail
   all_goals go_ret
   all_goals exact⟨rfl,rfl⟩
theorem cfQ_or (x y:Int×Int):orI2 (cmpI x.1 y.1) (cmpI x.2 y.2)=cfQ x y:=by
 unfold orI2 cmpI cfQ
 by_cases h1:x.1<y.1
 ·simp [h1]
 ·by_cases h2:y.1<x.1
  ·simp [h1,h2]
  ·simp [h1,h2]
theorem cell_last (V:World) (c:Array Go.Value) (E:TypeId) (b q:Nat) (hb:b=V.heap.size) (v:Go.Value) (hv:c[q]? =some v):(V.alloc (.cells c E)).drew.cell? ⟨b,q,none⟩=some v:=by
 subst hb
 show(match(V.heap.push (.cells c E))[V.heap.size]? with|some (.cells c _ _)=>if(none:Option Nat).isSome then none else c[q]? |_=>none)=some v
 rw[Array.getElem?_push_size]
 exact hv
theorem ord_any (x y:Int×Int) (W:World):Calls Tryz.prog N393 #[.agg (encQ x).toArray,.agg (encQ y).toArray] W fun e w'=>e= .returned (.int .i64 (cfQ x y))∧ ∃q os',w'=grow (W.drewN q) os':=by
 have hc:=cmp_any
 change ∀x y W,Calls Tryz.prog 162 _ _ _ at hc
 have ho:=or_any
 change ∀a b g W h0 h1,Calls Tryz.prog 161 _ _ _ at ho
 rw[←cfQ_or]
 obtain⟨x1,x2⟩:=x
 obtain⟨y1,y2⟩:=y
 simp only
 generalize cmpI=cm at hc⊢
 generalize orI2=om at ho⊢
 show Calls Tryz.prog N393 #[.agg #[.int .u64 x1,.int .u64 x2],.agg #[.int .u64 y1,.int .u64 y2]] W _
 go_enter H393,tm393
 go_wp2_with fail
 go_region_held3 (fun w'=>w'.cell? ⟨W.heap.size,0,none⟩=some (.int .u64 x1)∧w'.cell? ⟨W.heap.size,1,none⟩=some (.int .u64 x2)∧w'.cell? ⟨W.heap.size+1,0,none⟩=some (.int .u64 y1)∧w'.cell? ⟨W.heap.size+1,1,none⟩=some (.int .u64 y2)) (go_keep)
  (first|(go_at_call 162;refine(hc _ _ _).mono ?_;rintro e w' ⟨rfl,rfl⟩)|(go_at_call 161;refine(ho (cm x1 y1) (cm x2 y2) _ _ (cell_last _ _ _ _ 0 (by simp) _ rfl) (cell_last _ _ _ _ 1 (by simp) _ rfl)).mono ?_;rintro e w' ⟨rfl,rfl⟩))
 all_goals go_wp2_with fail
 all_goals go_ret
 all_goals exact⟨rfl,1,_,by rw[alloc_eq_grow,alloc_eq_grow,alloc_eq_grow,grow_grow,grow_grow];rfl⟩
theorem ord_any2 (x y:Int×Int) (W:World):Calls Tryz.prog N396 #[.agg (encQ x).toArray,.agg (encQ y).toArray] W fun e w'=>e= .returned (.int .i64 (cfQ x y))∧ ∃q os',w'=grow (W.drewN q) os':=by
 have hc:=cmp_any
 change ∀x y W,Calls Tryz.prog 162 _ _ _ at hc
 have ho:=or_any
 change ∀a b g W h0 h1,Calls Tryz.prog 161 _ _ _ at ho
 rw[←cfQ_or]
 obtain⟨x1,x2⟩:=x
 obtain⟨y1,y2⟩:=y
 simp only
 generalize cmpI=cm at hc⊢
 generalize orI2=om at ho⊢
 show Calls Tryz.prog N396 #[.agg #[.int .u64 x1,.int .u64 x2],.agg #[.int .u64 y1,.int .u64 y2]] W _
 go_enter H396,tm396
 go_wp2_with fail
 go_region_held3 (fun w'=>w'.cell? ⟨W.heap.size,0,none⟩=some (.int .u64 x1)∧w'.cell? ⟨W.heap.size,1,none⟩=some (.int .u64 x2)∧w'.cell? ⟨W.heap.size+1,0,none⟩=some (.int .u64 y1)∧w'.cell? ⟨W.heap.size+1,1,none⟩=some (.int .u64 y2)) (go_keep)
  (first|(go_at_call 162;refine(hc _ _ _).mono ?_;rintro e w' ⟨rfl,rfl⟩)|(go_at_call 161;refine(ho (cm x1 y1) (cm x2 y2) _ _ (cell_last _ _ _ _ 0 (by simp) _ rfl) (cell_last _ _ _ _ 1 (by simp) _ rfl)).mono ?_;rintro e w' ⟨rfl,rfl⟩))
 all_goals go_wp2_with fail
 all_goals go_ret
 all_goals exact⟨rfl,1,_,by rw[alloc_eq_grow,alloc_eq_grow,alloc_eq_grow,grow_grow,grow_grow];rfl⟩
theorem sort392 (g:FuncId) (hg:g=N393∨g=N396) (l:List (Int×Int)) (hl:l.length≤1000000):
 GoodIO Tryz.prog N392 [.one (.hot 0 none),.one (.fn g [])] 1 [.arr false (.pair (.int .u64) (.int .u64)) l] (.tup []) [.arr false (.pair (.int .u64) (.int .u64)) (sortQ l)]:=by
 rcases hg with rfl|rfl
 ·exact sort_ioQ laySf aESf zESf N393 (enters_of H393 (by kernel_rfl) rfl) (fun x y W=>ord_any x y W) l hl
 ·exact sort_ioQ laySf aESf zESf N396 (enters_of H396 (by kernel_rfl) rfl) (fun x y W=>ord_any2 x y W) l hl
def s392:Sp:= .io fun a p gs=>match a,p,gs with
 |[.one (.hot 0 none),.one (.fn g [])],1,[.arr false (.pair (.int .u64) (.int .u64)) l]=>some ((Nat.beq g N393||Nat.beq g N396)&&decide (l.length≤1000000),.tup [],[.arr false Subset (sortQ l)])
 |_,_,_=>none
theorem g392:GoodS Tryz.prog N392 s392:=by
 refine GoodS.io (callable_of H392 (bd rfl) (by kernel_rfl)) fun a p gs r gs' hw1 hw2 h=> ?_
 clear hw1 hw2
 unfold s392 at h
 split at h
 ·rename_i g l
  simp only[Option.some.injEq,Prod.mk.injEq,Bool.and_eq_true,Bool.or_eq_true,decide_eq_true_eq]at h
  obtain⟨⟨hg,hl⟩,rfl,rfl⟩:=h
  exact sort392 g (hg.imp Nat.eq_of_beq_eq_true Nat.eq_of_beq_eq_true) l hl
 ·cases h
end Go.AM.Seat
