import Derived.Test.YthnonmlhgafalaaGreatWM33
set_option linter.unusedVariables false
set_option linter.unusedSimpArgs false
set_option maxRecDepth 100000
namespace Go.AM.Seat
open Go Go.AM Go.Proofs
def opKr (l:List Term.D) (h k i:Int) (es:List Entry.D) (ps:List Part.D):WS:=keyR l h k i es (pAt ps (firstI h i (fstS ps)).1).1
def opUr (l:List Term.D) (h k i:Int) (es:List Entry.D) (ps:List Part.D):Value.D×Int:=unwrapVR (opKr l h k i es ps).2.1 (opKr l h k i es ps).1 (pAt ps (firstI h i (fstS ps)).1).2
def opEr (l:List Term.D) (h k i:Int) (es:List Entry.D) (ps:List Part.D):Option AV:=
 bif inB (firstI h i (fstS ps)).1 ps.length then bif (opUr l h k i es ps).2 != 0 then some (vle (zeroV,[],(opUr l h k i es ps).2))else some (vle ((opUr l h k i es ps).1,(opKr l h k i es ps).2.1,0))else none
theorem r831 (l:List Term.D) (h k i:Int) (es:List Entry.D) (ps:List Part.D):run Γ831 Λ831 [(0,live831)] F831 (encA O6 (l,h,k,i,es,ps)) wVle=
 bif g831 ps ps.length then
  bif (firstI h i (fstS ps)).2 != 0 then some (vle (zeroV,[],(firstI h i (fstS ps)).2))else bif inB (firstI h i (fstS ps)).1 ps.length then bif decide (l.length≤65000)then
   bif (opKr l h k i es ps).2.2 != 0 then some (vle (zeroV,[],(opKr l h k i es ps).2.2))else allSame (List.replicate 104 (opEr l h k i es ps))else none else none else none:=by kernel_rfl
def s831:Sp:= .fn O6 fun x=>(decide (x.1.length ≤65000)&&decide (x.2.2.2.2.2.length ≤1000000),vle (openP x.1 x.2.1 x.2.2.1 x.2.2.2.1 x.2.2.2.2.1 x.2.2.2.2.2))
theorem pAt_fst {ps:List Part.D} {n:Int} (h0:0≤n) (h:n<ps.length):(fstS ps).getD n.toNat (Subset:Ty).dflt=(pAt ps n).1:=by
 obtain⟨q,rfl⟩:=Int.eq_ofNat_of_zero_le h0
 have hq:q<ps.length:=by omega
 unfold fstS pAt
 simp [hq]
theorem g831s:GoodS Tryz.prog N831 s831:=by
 refine good (.cons g316 (.cons g706 (.cons (g25 g58) (.nil _)))) H831 rfl (by kernel_rfl) Λ831 [(0,live831)] (oneLoop (p0:=loop1 F831) (by kernel_rfl) loop831) O6 (by decide) wVle _ fun x r hw e=> ?_
 obtain⟨l,h,k,i,es,ps⟩:=x
 simp only[Prod.mk.injEq,Bool.and_eq_true,decide_eq_true_eq]at e
 obtain⟨⟨e1,e2⟩,rfl⟩:=e
 have e2:ps.length≤1000000:=e2
 refine(r831 l h k i es ps).trans ?_
 have hf:(fstS ps).length=ps.length:=by simp [fstS]
 have hg:g831 ps ps.length=true:=by
  unfold g831
  simp only[Bool.and_eq_true,decide_eq_true_eq]
  exact⟨trivial,e2⟩
 rw[hg,decide_eq_true e1]
 unfold openP
 simp only[cond_true]
 cases h1:(firstI h i (fstS ps)).2 != 0 with
 |true=>rfl
 |false=>
  obtain⟨f1,f2⟩:=firstI_in (show(firstI h i (fstS ps)).2=0 by simpa using h1)
  have f3:(firstI h i (fstS ps)).1<(ps.length:Int):=by omega
  have hin:inB (firstI h i (fstS ps)).1 ps.length=true:=by
   obtain⟨q,hq⟩:=Int.eq_ofNat_of_zero_le f1
   rw[hq]at f3⊢;exact inB_lt (by omega)
  have hk:opKr l h k i es ps=opK l h k i es (fstS ps):=by
   unfold opKr opK
   rw[pAt_fst f1 f3]
  have hu:opUr l h k i es ps=opU l h k i es ps (fstS ps):=by
   unfold opUr opU
   rw[unwrapVR_eq,hk]
  rw[hin]
  simp only[cond_false,cond_true]
  rw[hk]
  cases (opK l h k i es (fstS ps)).2.2 != 0 with
  |true=>rfl
  |false=>
   simp only[cond_false]
   unfold opEr
   rw[hin,hu,hk]
   simp only[cond_true]
   cases (opU l h k i es ps (fstS ps)).2 != 0 with
   |true=>exact allSame_rep _ 103
   |false=>exact allSame_rep _ 103
def Γ806:Orc:=orc [(N823,s823),(N830,s830),(N831,s831),(N26,s26)]
def law6 (a b:WS):Bool:=bif (bif valEq a.1 b.1 then sameL a.2.1 b.2.1 else false)then a.2.2 ==b.2.2 else false
theorem r806 (l:List Term.D) (h k i:Int) (es:List Entry.D) (ps:List Part.D):run Γ806 noL [] F806 (encA O6 (l,h,k,i,es,ps)) []=
 bif (bif (bif decide ((l.length:Int)>400)then true else decide ((es.length:Int)>600))then true else decide ((ps.length:Int)>60))then oB7 true else
 bif decide (l.length≤1000000)&&decide (ps.length≤1000000)then bif decide (l.length≤65000)&&decide (ps.length≤1000000)then
  oB7 (law6 (openP l h k i es ps) (openP l h k i es ps))else none else none:=by kernel_rfl
theorem good806 (x:ADen O6):Good Tryz.prog N806 (encA O6 x) (.one (.bool true)):=by
 have g:GoodS Tryz.prog N806 (.fn O6 fun _=>(true,.one (.bool true))):=by
  refine good (.cons g823 (.cons g830s (.cons g831s (.cons g26 (.nil _))))) H806 rfl (by kernel_rfl) noL [] (noLoops (by kernel_rfl)) O6 (by decide) [] _ fun x r hw e=> ?_
  obtain⟨l,h,k,i,es,ps⟩:=x
  cases e
  refine(r806 l h k i es ps).trans ?_
  cases h1:decide ((l.length:Int)>400)with
  |true=>rfl
  |false=>
  cases h2:decide ((es.length:Int)>600)with
  |true=>rfl
  |false=>
  cases h3:decide ((ps.length:Int)>60)with
  |true=>rfl
  |false=>
  have h1:=of_decide_eq_false h1
  have h3:=of_decide_eq_false h3
  rw[decide_eq_true (show l.length≤1000000 by omega),decide_eq_true (show l.length≤65000 by omega),decide_eq_true (show ps.length≤1000000 by omega)]
  simp only[cond_false,Bool.and_self,cond_true]
  unfold law6
  rw[valEq_iff.2 rfl,show sameL (openP l h k i es ps).2.1 (openP l h k i es ps).2.1 =true from decide_eq_true rfl,beq_self_eq_true]
  rfl
 exact g.2.1 _ _ (by kernel_rfl)
end Go.AM.Seat
