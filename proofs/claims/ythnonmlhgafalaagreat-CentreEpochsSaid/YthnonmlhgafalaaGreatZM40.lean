import Derived.Test.YthnonmlhgafalaaGreatZSeIs5
import Derived.Test.YthnonmlhgafalaaGreatZM37
set_option linter.unusedVariables false
set_option linter.unusedSimpArgs false
set_option maxRecDepth 100000
namespace Go.AM.Seat
open Go Go.AM Go.Proofs
def Γ1040:Orc:=orc [(N369,s369f),(N428,s428),(N1076,s1076)]
def woutV (a:Int) (l:List Int) (i:Int):List Int×Int:=
 bif fdE a l i != 0 then([],fdE a l i)else bif !fdB a l i then([],4)else(delL (fdK a l i).toNat (IntKind.i64.wrap (fdK a l i+1)).toNat l,0)
theorem r1040 (a:Int) (l:List Int) (i:Int):run Γ1040 noL [] F1040 [.one (.int .i64 a),.one (.sl false U none l),.one (.int .u64 i)] [.sl true U,.id]=
 bif fdE a l i != 0 then some (lE ([],fdE a l i))else bif !fdB a l i then some (lE ([],4))else
 bif decide (l.length≤1000000)then bif decide (0≤fdK a l i)&&decide (fdK a l i<IntKind.i64.wrap (fdK a l i+1))&&decide (IntKind.i64.wrap (fdK a l i+1)≤(l.length:Int))&&decide (l.length≤1000000)then
  some (lE (delL (fdK a l i).toNat (IntKind.i64.wrap (fdK a l i+1)).toNat l,0))else none else none:=by kernel_rfl
def s1040:Sp:= .fn [.v I,.v (.sl U),.v U] fun x=>(true,lE (woutV x.1 x.2.1 x.2.2))
theorem found_lt {l:List Int} {i:Int} (h:foundBu l i=true):bsPu l i<l.length:=by
 unfold foundBu at h
 cases hd:decide (((bsPu l i:Nat):Int)<l.length)with
 |false=>rw[hd]at h;cases h
 |true=>have:=of_decide_eq_true hd;omega
theorem fdB_true {a:Int} {l:List Int} {i:Int} (h:fdB a l i=true):findB a l i=false∧foundBu l i=true:=by
 unfold fdB at h
 cases h1:findB a l i with
 |true=>rw[h1]at h;cases h
 |false=>rw[h1]at h;exact⟨rfl,h⟩
theorem g1040:GoodS Tryz.prog N1040 s1040:=by
 refine good (.cons g369f (.cons g428 (.cons g1076 (.nil _)))) H1040 rfl (by kernel_rfl) noL [] (noLoops (by kernel_rfl)) [.v I,.v (.sl U),.v U] (by decide) [.sl true U,.id] _ fun x r hw e=> ?_
 obtain⟨a,l,i⟩:=x
 cases e
 refine(r1040 a l i).trans ?_
 show _=some (lE (woutV a l i))
 unfold woutV
 cases h1:fdE a l i != 0 with
 |true=>rfl
 |false=>
  cases hb:fdB a l i with
  |false=>rfl
  |true=>
   obtain⟨h2,h3,_⟩:=fd_ok h1
   have hl:=(lok_len h3).1
   have hf:=found_lt (fdB_true hb).2
   have hk:fdK a l i=bsPu l i:=by unfold fdK;rw[h2];rfl
   have hw1:IntKind.i64.wrap (((bsPu l i:Nat):Int)+1)=((bsPu l i:Nat):Int)+1:=wrap64 (by omega) (by omega)
   rw[hk,hw1,decide_eq_true (show l.length≤1000000 by omega),decide_eq_true (show(0:Int)≤((bsPu l i:Nat):Int) by omega),decide_eq_true (show((bsPu l i:Nat):Int)<((bsPu l i:Nat):Int)+1 by omega),decide_eq_true (show((bsPu l i:Nat):Int)+1≤(l.length:Int) by omega)]
   rfl
def woutL (x:ListT.D) (i:Int):List Int×Int:=woutV x.1 x.2.2 i
theorem r972 (x:ListT.D×U.D):run (orc [(N1040,s1040)]) noL [] F972 (encA [.v ListT,.v U] x) [.sl true U,.id]=some (lE (woutL x.1 x.2)):=by kernel_rfl
def s972:Sp:= .fn [.v ListT,.v U] fun x=>(true,lE (woutL x.1 x.2))
theorem g972:GoodS Tryz.prog N972 s972:=by
 refine good (.cons g1040 (.nil _)) H972 rfl (by kernel_rfl) noL [] (noLoops (by kernel_rfl)) [.v ListT,.v U] (by decide) [.sl true U,.id] _ fun x r hw e=> ?_
 cases e
 exact r972 x
theorem r970o (r:RollT.D) (i:Int):run (orc [(N896,s896),(N972,s972)]) noL [] F970 [.agg (enc RollT false r),.one (.int .u64 i),.one (.fn N972 [])] [wRoll,.id]=
 bif rollE r != 0 then some (rP (zeroR,rollE r))else bif (woutL (r.1,r.2.1,r.2.2.1) i).2 != 0 then some (rP (zeroR,(woutL (r.1,r.2.1,r.2.2.1) i).2))else bif r.2.2.2 ==1099511627776 then some (rP (zeroR,9))else
  some (rP ((r.1,r.2.1,(woutL (r.1,r.2.1,r.2.2.1) i).1,IntKind.i64.wrap (r.2.2.2 +1)),0)):=by kernel_rfl
def s970o:Sp:= .fn [.v RollT,.v U,.raw] fun x=>match x.2.2 with
 | .one (.fn f [])=>(Nat.beq f N972,rP (chgR woutL x.1 x.2.1))
 |_=>(false,AV.junk)
theorem g970o:GoodS Tryz.prog N970 s970o:=by
 refine good (.cons g896 (.cons g972 (.nil _))) H970 rfl (by kernel_rfl) noL [] (noLoops (by kernel_rfl)) [.v RollT,.v U,.raw] (by decide) [wRoll,.id] _ fun x r hw h=> ?_
 obtain⟨x,i,c⟩:=x
 simp only at h
 split at h
 ·rename_i f
  simp only[Prod.mk.injEq]at h
  obtain⟨hf,rfl⟩:=h
  obtain rfl:=Nat.eq_of_beq_eq_true hf
  refine(r970o x i).trans ?_
  unfold chgR
  cases rollE x != 0 with
  |true=>rfl
  |false=>
   cases (woutL (x.1,x.2.1,x.2.2.1) i).2 != 0 with
   |true=>rfl
   |false=>cases x.2.2.2 ==1099511627776<;>rfl
 ·cases h
theorem r895 (r:RollT.D) (i:Int):run (orc [(N970,s970o)]) noL [] F895 [.agg (enc RollT false r),.one (.int .u64 i)] [wRoll,.id]=bif Nat.beq N972 N972 then some (rP (chgR woutL r i))else none:=by kernel_rfl
def s895:Sp:= .fn [.v RollT,.v U] fun x=>(true,rP (chgR woutL x.1 x.2))
theorem g895:GoodS Tryz.prog N895 s895:=by
 refine good (.cons g970o (.nil _)) H895 rfl (by kernel_rfl) noL [] (noLoops (by kernel_rfl)) [.v RollT,.v U] (by decide) [wRoll,.id] _ fun x r hw e=> ?_
 cases e
 refine(r895 x.1 x.2).trans ?_
 rw[show Nat.beq N972 N972=true from rfl];rfl
theorem r893o (c:CenT.D) (i:Int):run (orc [(N839,s839),(N895,s895),(N853,s853)]) noL [] F893 [.agg (enc CenT false c),.one (.int .u64 i),.one (.fn N895 [])] [wCen,.id]=
 bif small24 (cL c).length then bif chkC c != 0 then some (cP (zeroC,chkC c))else bif (chgR woutL (cR c) i).2 != 0 then some (cP (zeroC,(chgR woutL (cR c) i).2))else bif cenS c then some (cP (setR c (chgR woutL (cR c) i).1,0))else none else none:=by kernel_rfl
def s893o:Sp:= .fn [.v CenT,.v U,.raw] fun x=>match x.2.2 with
 | .one (.fn f [])=>(Nat.beq f N895&&cenS x.1,cP (chgC woutL x.1 x.2.1))
 |_=>(false,AV.junk)
theorem g893o:GoodS Tryz.prog N893 s893o:=by
 refine good (.cons g839 (.cons g895 (.cons g853 (.nil _)))) H893 rfl (by kernel_rfl) noL [] (noLoops (by kernel_rfl)) [.v CenT,.v U,.raw] (by decide) [wCen,.id] _ fun x r hw h=> ?_
 obtain⟨c,i,f⟩:=x
 simp only at h
 split at h
 ·rename_i f
  simp only[Prod.mk.injEq,Bool.and_eq_true]at h
  obtain⟨⟨hf,hs⟩,rfl⟩:=h
  obtain rfl:=Nat.eq_of_beq_eq_true hf
  refine(r893o c i).trans ?_
  rw[cenS_small hs,hs]
  unfold chgC
  cases chkC c != 0 with
  |true=>rfl
  |false=>cases (chgR woutL (cR c) i).2 != 0<;>rfl
 ·cases h
theorem r838 (c:CenT.D) (i:Int):run (orc [(N893,s893o)]) noL [] F838 [.agg (enc CenT false c),.one (.int .u64 i)] [wCen,.id]=bif Nat.beq N895 N895&&cenS c then some (cP (chgC woutL c i))else none:=by kernel_rfl
def s838:Sp:= .fn [.v CenT,.v U] fun x=>(cenS x.1,cP (chgC woutL x.1 x.2))
theorem g838:GoodS Tryz.prog N838 s838:=by
 refine good (.cons g893o (.nil _)) H838 rfl (by kernel_rfl) noL [] (noLoops (by kernel_rfl)) [.v CenT,.v U] (by decide) [wCen,.id] _ fun x r hw e=> ?_
 obtain⟨c,i⟩:=x
 have hs:cenS c=true:=congrArg Prod.fst e
 obtain rfl:cP (chgC woutL c i)=r:=congrArg Prod.snd e
 refine(r838 c i).trans ?_
 rw[hs,show Nat.beq N895 N895=true from rfl];rfl
def Γ809:Orc:=orc [(N814,s814),(N836,s836),(N837,s837),(N838,s838),(N817,s817),(N322,s322),(N839,s839),(N822,s822)]
abbrev live809:List (Nat×Dir):=[(0,.keep),(1,.keep),(2,.keep),(4,.keep),(12,.keep),(13,.keep),(14,.keep),(16,.arr Value),(55,.keep),(56,.keep),(57,.keep)]
abbrev live809b:List (Nat×Dir):=[(0,.keep),(1,.keep),(2,.keep),(4,.keep),(12,.keep),(13,.keep),(14,.keep),(16,.arr Value),(18,.keep),(19,.keep),(20,.keep),(21,.keep),(23,.keep),(55,.keep),(56,.keep),(57,.keep),(137,.keep),(138,.keep),(139,.keep)]
abbrev live809c:List (Nat×Dir):=[(0,.keep),(1,.keep),(2,.keep),(4,.keep),(12,.keep),(13,.keep),(14,.keep),(16,.arr Value),(18,.keep),(19,.keep),(20,.keep),(21,.keep),(55,.keep),(56,.keep),(57,.keep),(152,.keep),(153,.keep),(154,.keep)]
abbrev lay809:List (Nat×List (Nat×Dir)):=[(0,live809),(3,live809b),(5,live809c)]
def vs809 (h k:Int) (y:Bool) (ds:List Block.D) (r:Bool) (c:CenT.D) (ks:List Value.D) (l:List Int) (n j:Int):List AV:=
 [.one (.int .i64 h),.one (.int .i64 k),.one (.bool y),.one (.sl false Block none ds),.one (.bool r),.one (.bool true),.own (enc CenT true c),.arr true Value ks,.one (.sl false U none l),.one (.int .i64 n),.one (.int .i64 j)]
def vs809b (h k:Int) (y:Bool) (ds:List Block.D) (r:Bool) (c:CenT.D) (ks:List Value.D) (x:Int) (nx:CenT.D) (e:Int) (v:Value.D) (w:List Subset.D) (l:List Int) (n j:Int) (ps:List Part.D) (n3 j3:Int):List AV:=
 [.one (.int .i64 h),.one (.int .i64 k),.one (.bool y),.one (.sl false Block none ds),.one (.bool r),.one (.bool true),.own (enc CenT true c),.arr true Value ks,.one (.int .u64 x),.own (enc CenT true nx),.one (.int .i64 e),.own (enc Value true v),.one (.sl true Subset none w),.one (.sl false U none l),.one (.int .i64 n),.one (.int .i64 j),
   .one (.sl true Part none ps),.one (.int .i64 n3),.one (.int .i64 j3)]
def vs809c (h k:Int) (y:Bool) (ds:List Block.D) (r:Bool) (c:CenT.D) (ks:List Value.D) (x:Int) (nx:CenT.D) (e:Int) (v:Value.D) (l:List Int) (n j:Int) (n3 j3:Int):List AV:=
 [.one (.int .i64 h),.one (.int .i64 k),.one (.bool y),.one (.sl false Block none ds),.one (.bool r),.one (.bool true),.own (enc CenT true c),.arr true Value ks,.one (.int .u64 x),.own (enc CenT true nx),.one (.int .i64 e),.own (enc Value true v),.one (.sl false U none l),.one (.int .i64 n),.one (.int .i64 j),
   .one (.hot 16 none),.one (.int .i64 n3),.one (.int .i64 j3)]
noncomputable abbrev lo809b (Λ:Lam AV) (K:AE→List AV→Option AV) (fuel:Nat) (vs:List AV):Option AV:=loopN (aexec tb Γ809 Λ ⟨242,0,lay809⟩ (loopK F809 1).2 0) 242 0 live809b K fuel vs
noncomputable abbrev lo809c (Λ:Lam AV) (K:AE→List AV→Option AV) (fuel:Nat) (vs:List AV):Option AV:=loopN (aexec tb Γ809 Λ ⟨242,0,lay809⟩ (loopK F809 2).2 0) 242 0 live809c K fuel vs
def badB (ps:List Part.D) (w:List Subset.D) (j:Int):Bool:= !(sameS (pAt ps j).1 (sAt w j))
def badC (y:Bool) (ks:List Value.D) (v:Value.D) (j:Int):Bool:=bif y then valEq (vaT ks j) v else false
theorem step809b (h k:Int) (y:Bool) (ds:List Block.D) (c:CenT.D) (ks:List Value.D) (x:Int) (nx:CenT.D) (e:Int) (v:Value.D) (w:List Subset.D) (l:List Int) (n j:Int) (ps:List Part.D) (n3 j3:Int) (Λ:Lam AV) (K:AE→List AV→Option AV) (fuel:Nat):lo809b Λ K (fuel+1) (vs809b h k y ds false c ks x nx e v w l n j ps n3 j3)=
 bif decide (j3<n3)then bif inB j3 ps.length then bif inB j3 w.length then bif badB ps w j3 then K .ret (vs809b h k y ds false c ks x nx e v w l n j ps n3 j3)else lo809b Λ K fuel (vs809b h k y ds false c ks x nx e v w l n j ps n3 (IntKind.i64.wrap (j3+1)))else none else none else K (.exit 3) (vs809b h k y ds false c ks x nx e v w l n j ps n3 j3):=by kernel_rfl
theorem step809c (h k:Int) (y:Bool) (ds:List Block.D) (c:CenT.D) (ks:List Value.D) (x:Int) (nx:CenT.D) (e:Int) (v:Value.D) (l:List Int) (n j:Int) (n3 j3:Int) (Λ:Lam AV) (K:AE→List AV→Option AV) (fuel:Nat):lo809c Λ K (fuel+1) (vs809c h k y ds false c ks x nx e v l n j n3 j3)=
 bif decide (j3<n3)then bif inB j3 ks.length then bif badC y ks v j3 then K .ret (vs809c h k y ds false c ks x nx e v l n j n3 j3)else lo809c Λ K fuel (vs809c h k y ds false c ks x nx e v l n j n3 (IntKind.i64.wrap (j3+1)))else none else K (.exit 5) (vs809c h k y ds false c ks x nx e v l n j n3 j3):=by kernel_rfl
def Λ809b (vs:List AV) (K:AE→List AV→Option AV):Option AV:=
 match vs with
 |[.one (.int .i64 h),.one (.int .i64 k),.one (.bool y),.one (.sl false (.pair (.int .u64) (.int .u64)) none ds),.one (.bool false),.one (.bool true),.own cc,.arr true (.pair .bool (.pair .bool (.pair (.pair (.int .u64) (.int .u64)) (.pair (.pair (.pair (.int .u64) (.int .u64)) (.pair (.int .u64) (.int .u64))) (.int .i64))))) ks,.one (.int .u64 x),.own cn,.one (.int .i64 e),.own ck,.one (.sl true (.pair (.int .u64) (.int .u64)) none w),.one (.sl false (.int .u64) none l),.one (.int .i64 n),.one (.int .i64 j),.one (.sl true (.pair (.pair (.int .u64) (.int .u64)) (.pair .bool (.pair .bool (.pair (.pair (.int .u64) (.int .u64)) (.pair (.pair (.pair (.int .u64) (.int .u64)) (.pair (.int .u64) (.int .u64))) (.int .i64)))))) none ps),.one (.int .i64 n3),.one (.int .i64 0)]=>
  (match strictA true CenT cc,strictA true CenT cn,strictA true Value ck with
  |some c,some nx,some v=>bif decide (n3=ps.length)&&(decide ((ps.length:Int)≤9223372036854775807)&&decide (w.length=ps.length))then allK (fun j3=>K .ret (vs809b h k y ds false c ks x nx e v w l n j ps n3 j3)) (K (.exit 3) (vs809b h k y ds false c ks x nx e v w l n j ps n3 n3)) (fun j=>badB ps w j) ps.length 0 else none
  |_,_,_=>none)
 |_=>none
def Λ809c (vs:List AV) (K:AE→List AV→Option AV):Option AV:=
 match vs with
 |[.one (.int .i64 h),.one (.int .i64 k),.one (.bool y),.one (.sl false (.pair (.int .u64) (.int .u64)) none ds),.one (.bool false),.one (.bool true),.own cc,.arr true (.pair .bool (.pair .bool (.pair (.pair (.int .u64) (.int .u64)) (.pair (.pair (.pair (.int .u64) (.int .u64)) (.pair (.int .u64) (.int .u64))) (.int .i64))))) ks,.one (.int .u64 x),.own cn,.one (.int .i64 e),.own ck,.one (.sl false (.int .u64) none l),.one (.int .i64 n),.one (.int .i64 j),.one (.hot 16 none),.one (.int .i64 n3),.one (.int .i64 0)]=>
  (match strictA true CenT cc,strictA true CenT cn,strictA true Value ck with
  |some c,some nx,some v=>bif decide (n3=ks.length)&&decide ((ks.length:Int)≤9223372036854775807)then allK (fun j3=>K .ret (vs809c h k y ds false c ks x nx e v l n j n3 j3)) (K (.exit 5) (vs809c h k y ds false c ks x nx e v l n j n3 n3)) (fun j=>badC y ks v j) ks.length 0 else none
  |_,_,_=>none)
 |_=>none
noncomputable abbrev lo809 (Λ:Lam AV) (K:AE→List AV→Option AV) (fuel:Nat) (vs:List AV):Option AV:=loopN (aexec tb Γ809 Λ ⟨242,0,lay809⟩ (loopK F809 0).2 0) 242 0 live809 K fuel vs
def Λ809' (Λ0:List AV→(AE→List AV→Option AV)→Option AV):Lam AV:=fun cur vs K=>match cur with
 |3=>Λ809b vs K
 |5=>Λ809c vs K
 |0=>Λ0 vs K
 |_=>none
theorem loop809b (Λ0:List AV→(AE→List AV→Option AV)→Option AV):LoopP tb Γ809 (Λ809' Λ0) ⟨242,0,lay809⟩ (loopK F809 1):=by
 intro vs K out e
 have hcur:(loopK F809 1).1=3:=by kernel_rfl
 rw[hcur]at e⊢
 replace e:Λ809b vs K=some out:=e
 unfold Λ809b at e
 split at e
 ·rename_i h k y ds cc ks x cn e1 ck w l n j ps n3
  split at e
  ·rename_i c nx v hc hn hv
   obtain rfl:=strictA_eq hc
   obtain rfl:=strictA_eq hn
   obtain rfl:=strictA_eq hv
   cases hq:decide (n3=ps.length)&&(decide ((ps.length:Int)≤9223372036854775807)&&decide (w.length=ps.length))with
   |false=>rw[hq]at e;cases e
   |true=>
    rw[hq]at e
    simp only[cond_true]at e
    simp only[Bool.and_eq_true,decide_eq_true_eq]at hq
    obtain⟨rfl,hmax,hl⟩:=hq
    refine upLoop (α:=Unit) (n:=ps.length) (F:=fun fuel _ j3=>lo809b (Λ809' Λ0) K fuel (vs809b h k y ds false c ks x nx e1 v w l n j ps ps.length j3))
     (G:=fun j3 _=>allK (fun j3=>K .ret (vs809b h k y ds false c ks x nx e1 v w l n j ps ps.length j3)) (K (.exit 3) (vs809b h k y ds false c ks x nx e1 v w l n j ps ps.length ps.length)) (fun j=>badB ps w j) (ps.length-j3) j3)
     (fun fuel _=> ?_) (fun _ j3 hj=> ?_) ps.length 0 () out (by omega) e
    ·simp only[step809b,nlt_dec,cond_false,Nat.sub_self,allK]
    ·have hm:ps.length-j3=(ps.length-(j3+1))+1:=by omega
     have hstep: ∀fuel,lo809b (Λ809' Λ0) K (fuel+1) (vs809b h k y ds false c ks x nx e1 v w l n j ps ps.length j3)=bif badB ps w j3 then K .ret (vs809b h k y ds false c ks x nx e1 v w l n j ps ps.length j3)else lo809b (Λ809' Λ0) K fuel (vs809b h k y ds false c ks x nx e1 v w l n j ps ps.length ((j3+1:Nat):Int)):=by
      intro fuel
      rw[step809b,lt_dec hj,inB_lt hj,inB_lt (show j3<w.length by omega),wrap64 (n:=(j3:Int)+1) (by omega) (by omega)]
      rfl
     cases hx:badB ps w j3 with
     |true=>right;intro fuel;rw[hstep,hx];simp only[hm,allK,hx,cond_true]
     |false=>
      left;refine⟨(),fun fuel=> ?_, ?_⟩
      ·rw[hstep,hx];rfl
      ·simp only[hm,allK,hx,cond_false]
  ·cases e
 ·cases e
theorem loop809c (Λ0:List AV→(AE→List AV→Option AV)→Option AV):LoopP tb Γ809 (Λ809' Λ0) ⟨242,0,lay809⟩ (loopK F809 2):=by
 intro vs K out e
 have hcur:(loopK F809 2).1=5:=by kernel_rfl
 rw[hcur]at e⊢
 replace e:Λ809c vs K=some out:=e
 unfold Λ809c at e
 split at e
 ·rename_i h k y ds cc ks x cn e1 ck l n j n3
  split at e
  ·rename_i c nx v hc hn hv
   obtain rfl:=strictA_eq hc
   obtain rfl:=strictA_eq hn
   obtain rfl:=strictA_eq hv
   cases hq:decide (n3=ks.length)&&decide ((ks.length:Int)≤9223372036854775807)with
   |false=>rw[hq]at e;cases e
   |true=>
    rw[hq]at e
    simp only[cond_true]at e
    simp only[Bool.and_eq_true,decide_eq_true_eq]at hq
    obtain⟨rfl,hmax⟩:=hq
    refine upLoop (α:=Unit) (n:=ks.length) (F:=fun fuel _ j3=>lo809c (Λ809' Λ0) K fuel (vs809c h k y ds false c ks x nx e1 v l n j ks.length j3))
     (G:=fun j3 _=>allK (fun j3=>K .ret (vs809c h k y ds false c ks x nx e1 v l n j ks.length j3)) (K (.exit 5) (vs809c h k y ds false c ks x nx e1 v l n j ks.length ks.length)) (fun j=>badC y ks v j) (ks.length-j3) j3)
     (fun fuel _=> ?_) (fun _ j3 hj=> ?_) ks.length 0 () out (by omega) e
    ·simp only[step809c,nlt_dec,cond_false,Nat.sub_self,allK]
    ·have hm:ks.length-j3=(ks.length-(j3+1))+1:=by omega
     have hstep: ∀fuel,lo809c (Λ809' Λ0) K (fuel+1) (vs809c h k y ds false c ks x nx e1 v l n j ks.length j3)=bif badC y ks v j3 then K .ret (vs809c h k y ds false c ks x nx e1 v l n j ks.length j3)else lo809c (Λ809' Λ0) K fuel (vs809c h k y ds false c ks x nx e1 v l n j ks.length ((j3+1:Nat):Int)):=by
      intro fuel
      rw[step809c,lt_dec hj,inB_lt hj,wrap64 (n:=(j3:Int)+1) (by omega) (by omega)]
      rfl
     cases hx:badC y ks v j3 with
     |true=>right;intro fuel;rw[hstep,hx];simp only[hm,allK,hx,cond_true]
     |false=>
      left;refine⟨(),fun fuel=> ?_, ?_⟩
      ·rw[hstep,hx];rfl
      ·simp only[hm,allK,hx,cond_false]
  ·cases e
 ·cases e
def rm9 (x:Int):Int:=Int.tmod x 3
def qt9 (x:Int):Int:=IntKind.u64.wrap (Int.tdiv x 3)
def chk9 (c nx:CenT.D) (x:Int):Bool:=
 bif bif chkC nx != 0 then true else bif rm9 x != 2 then(bif cE nx != cE c then true else cA nx != cA c)else false then true else bif rm9 x==2 then !sameR (cR nx) (cR c)else false
@[reducible] def CK:Type:=CenT.D→List Value.D→Option AV
def aft9 (N R:CK) (c nx:CenT.D) (x e:Int) (ks:List Value.D):Option AV:=
 bif e != 0 then N c ks else bif small24 (cL nx).length then bif chk9 c nx x then R c ks else N nx ks else none
def cov9 (h k:Int) (c:CenT.D):List Subset.D×Int:=coverI h k (rL (cR c))
def hd9 (h k:Int) (c:CenT.D) (z:HeadT.D×Value.D×CenT.D×Int):Bool:=
 bif bif bif bif bif bif (cov9 h k c).2 != 0 then true else((hL z.1).length:Int) != (cov9 h k c).1.length then true else z.1.2.2.1 != IntKind.i64.wrap (cE c+1)then true else cA z.2.2.1 != IntKind.i64.wrap (cA c+1)then true else cE z.2.2.1 != z.1.2.2.1 then true else z.1.2.1 != h then true else z.1.1 != k
def lst9 (N R:CK) (y:Bool) (c:CenT.D) (x:Int) (ks:List Value.D) (z:HeadT.D×Value.D×CenT.D×Int):Option AV:=
 bif decide ((ks.length:Int)=ks.length)&&decide ((ks.length:Int)≤9223372036854775807)then
  allK (fun _=>R c ks) (bif decide ((ks.length+[z.2.1].length)*64≤140737488355328)then aft9 N R c z.2.2.1 x z.2.2.2 (ks++[z.2.1])else none) (fun j=>badC y ks z.2.1 j) ks.length 0 else none
def snd9 (N R:CK) (h k:Int) (y:Bool) (ds:List Block.D) (c:CenT.D) (x:Int) (ks:List Value.D) (z:HeadT.D×Value.D×CenT.D×Int):Option AV:=
 bif !((z.2.2.2 ==10)==(cA c==(ds.length:Int)))then R c ks else bif z.2.2.2 != 0 then aft9 N R c z.2.2.1 x z.2.2.2 ks else bif hd9 h k c z then R c ks else
 bif decide (((hL z.1).length:Int)=(hL z.1).length)&&(decide (((hL z.1).length:Int)≤9223372036854775807)&&decide ((cov9 h k c).1.length =(hL z.1).length))then
  allK (fun _=>R c ks) (lst9 N R y c x ks z) (fun j=>badB (hL z.1) (cov9 h k c).1 j) (hL z.1).length 0 else none
def act9 (N R:CK) (h k:Int) (y:Bool) (ds:List Block.D) (c:CenT.D) (ks:List Value.D) (x:Int):Option AV:=
 bif rm9 x==0 then bif cenS c then aft9 N R c (chgC withL c (qt9 x)).1 x (chgC withL c (qt9 x)).2 ks else none else
 bif rm9 x==1 then bif cenS c then aft9 N R c (chgC woutL c (qt9 x)).1 x (chgC woutL c (qt9 x)).2 ks else none else
 bif small24 (cL c).length then snd9 N R h k y ds c x ks (sendC c (x,0))else none
theorem step809 (h k:Int) (y:Bool) (ds:List Block.D) (c:CenT.D) (ks:List Value.D) (l:List Int) (n j:Int) (Λ0:List AV→(AE→List AV→Option AV)→Option AV) (K:AE→List AV→Option AV) (fuel:Nat):
 lo809 (Λ809' Λ0) K (fuel+1) (vs809 h k y ds false c ks l n j)=bif decide (j<n)then bif inB j l.length then
  act9 (fun c ks=>lo809 (Λ809' Λ0) K fuel (vs809 h k y ds false c ks l n (IntKind.i64.wrap (j+1)))) (fun c ks=>K .ret (vs809 h k y ds false c ks l n j)) h k y ds c ks (bsAu l j)else none else K (.exit 0) (vs809 h k y ds false c ks l n j):=by kernel_rfl
def Two (f:CK→Option AV):Prop:=(∃c ks,∀N,f N=N c ks)∨ ∃r,∀N,f N=r
theorem Two.bif {b:Bool} {f g:CK→Option AV} (hf:Two f) (hg:Two g):Two (fun N=>bif b then f N else g N):=by
 cases b
 ·exact hg
 ·exact hf
theorem Two.const (r:Option AV):Two (fun _=>r):= .inr ⟨r,fun _=>rfl⟩
theorem Two.next (c:CenT.D) (ks:List Value.D):Two (fun N=>N c ks):= .inl ⟨c,ks,fun _=>rfl⟩
theorem aft_two (R:CK) (c nx:CenT.D) (x e:Int) (ks:List Value.D):Two (fun N=>aft9 N R c nx x e ks):=by
 unfold aft9
 exact .bif (.next ..) (.bif (.bif (.const _) (.next ..)) (.const _))
theorem lst_two (R:CK) (y:Bool) (c:CenT.D) (x:Int) (ks:List Value.D) (z:HeadT.D×Value.D×CenT.D×Int):Two (fun N=>lst9 N R y c x ks z):=by
 unfold lst9
 simp only[allK_two]
 exact .bif (.bif (.const _) (.bif (aft_two ..) (.const _))) (.const _)
theorem snd_two (R:CK) (h k:Int) (y:Bool) (ds:List Block.D) (c:CenT.D) (x:Int) (ks:List Value.D) (z:HeadT.D×Value.D×CenT.D×Int):Two (fun N=>snd9 N R h k y ds c x ks z):=by
 unfold snd9
 simp only[allK_two]
 exact .bif (.const _) (.bif (aft_two ..) (.bif (.const _) (.bif (.bif (.const _) (lst_two ..)) (.const _))))
theorem act_two (R:CK) (h k:Int) (y:Bool) (ds:List Block.D) (c:CenT.D) (ks:List Value.D) (x:Int):Two (fun N=>act9 N R h k y ds c ks x):=by
 unfold act9
 exact .bif (.bif (aft_two ..) (.const _)) (.bif (.bif (aft_two ..) (.const _)) (.bif (snd_two ..) (.const _)))
def go9 (h k:Int) (y:Bool) (ds:List Block.D) (l:List Int) (R:Nat→CK) (E:CK):Nat→Nat→CenT.D→List Value.D→Option AV
 |0,_,c,ks=>E c ks
 |m+1,j,c,ks=>act9 (fun c' ks'=>go9 h k y ds l R E m (j+1) c' ks') (R j) h k y ds c ks (bsAu l j)
def Λ809o (vs:List AV) (K:AE→List AV→Option AV):Option AV:=
 match vs with
 |[.one (.int .i64 h),.one (.int .i64 k),.one (.bool y),.one (.sl false (.pair (.int .u64) (.int .u64)) none ds),.one (.bool false),.one (.bool true),.own cc,.arr true (.pair .bool (.pair .bool (.pair (.pair (.int .u64) (.int .u64)) (.pair (.pair (.pair (.int .u64) (.int .u64)) (.pair (.int .u64) (.int .u64))) (.int .i64))))) ks,
    .one (.sl false (.int .u64) none l),.one (.int .i64 n),.one (.int .i64 0)]=>
  (match strictA true CenT cc with
  |some c=>bif decide (n=l.length)&&decide ((l.length:Int)≤9223372036854775807)then go9 h k y ds l (fun j c ks=>K .ret (vs809 h k y ds false c ks l n j)) (fun c ks=>K (.exit 0) (vs809 h k y ds false c ks l n n)) l.length 0 c ks else none
  |none=>none)
 |_=>none
def Λ809:Lam AV:=Λ809' Λ809o
theorem loop809:LoopP tb Γ809 Λ809 ⟨242,0,lay809⟩ (loopK F809 0):=by
 intro vs K out e
 have hcur:(loopK F809 0).1=0:=by kernel_rfl
 rw[hcur]at e⊢
 replace e:Λ809o vs K=some out:=e
 unfold Λ809o at e
 split at e
 ·rename_i h k y ds cc ks l n
  split at e
  ·rename_i c hc
   obtain rfl:=strictA_eq hc
   cases hq:decide (n=l.length)&&decide ((l.length:Int)≤9223372036854775807)with
   |false=>rw[hq]at e;cases e
   |true=>
    rw[hq]at e
    simp only[cond_true]at e
    simp only[Bool.and_eq_true,decide_eq_true_eq]at hq
    obtain⟨rfl,hmax⟩:=hq
    refine upLoop (α:=CenT.D×List Value.D) (n:=l.length) (F:=fun fuel a j=>lo809 Λ809 K fuel (vs809 h k y ds false a.1 a.2 l l.length j))
     (G:=fun j a=>go9 h k y ds l (fun j c ks=>K .ret (vs809 h k y ds false c ks l l.length j)) (fun c ks=>K (.exit 0) (vs809 h k y ds false c ks l l.length l.length)) (l.length-j) j a.1 a.2)
     (fun fuel a=> ?_) (fun a j hj=> ?_) l.length 0 (c,ks) out (by omega) e
    ·show lo809 (Λ809' Λ809o) K (fuel+1) _=_
     rw[step809,nlt_dec,cond_false,Nat.sub_self];rfl
    ·have hm:l.length-j=(l.length-(j+1))+1:=by omega
     have hstep: ∀fuel,lo809 Λ809 K (fuel+1) (vs809 h k y ds false a.1 a.2 l l.length j)=act9 (fun c ks=>lo809 Λ809 K fuel (vs809 h k y ds false c ks l l.length ((j+1:Nat):Int))) (fun c ks=>K .ret (vs809 h k y ds false c ks l l.length j)) h k y ds a.1 a.2 (bsAu l j):=by
      intro fuel
      show lo809 (Λ809' Λ809o) K (fuel+1) _=_
      rw[step809,lt_dec hj,inB_lt hj,wrap64 (n:=(j:Int)+1) (by omega) (by omega)]
      rfl
     simp only[hm,go9]
     rcases act_two (fun c ks=>K .ret (vs809 h k y ds false c ks l l.length j)) h k y ds a.1 a.2 (bsAu l j)with⟨c',ks',hn⟩|⟨r,hn⟩
     ·left
      exact⟨(c',ks'),fun fuel=>(hstep fuel).trans (hn _),hn _⟩
     ·right
      intro fuel
      exact(hstep fuel).trans ((hn _).trans (hn _).symm)
  ·cases e
 ·cases e
@[reducible] def A809:List AK:=[.v I,.v I,.v .bool,.v I,.v (.sl Block),.v (.sl U)]
def big9 (h:Int) (ds:List Block.D) (l:List Int):Bool:=bif bif decide (h>4)then true else decide ((ds.length:Int)>30)then true else decide ((l.length:Int)>30)
def fin9 (c:CenT.D) (ks:List Value.D):Bool:=bif cE c==(ks.length:Int)then cA c==IntKind.i64.wrap ((ks.length:Int)+1)else false
theorem r809 (h k:Int) (y:Bool) (room:Int) (ds:List Block.D) (l:List Int):run Γ809 Λ809 lay809 F809 (encA A809 (h,k,y,room,ds,l)) []=
 bif big9 h ds l then oB7 true else bif (setupV h k y room ds).2 != 0 then oB7 true else
  bif decide ((l.length:Int)=l.length)&&decide ((l.length:Int)≤9223372036854775807)then go9 h k y ds l (fun _ _ _=>oB7 false) (fun c ks=>oB7 (fin9 c ks)) l.length 0 (setupV h k y room ds).1 []else none:=by kernel_rfl
theorem hang_len4 {a:Int} {l:List Int} (h4:a≤4):(hangI a l).1.length ≤10*l.length+1:=by
 unfold hangI
 cases (bif lchkI a l==0 then(l.length:Int)==0 else false)with
 |true=>simp
 |false=>
  simp only[cond_false]
  unfold hangT
  cases hc:(treeI a l).2 != 0 with
  |true=>simp
  |false=>
   simp only[cond_false]
   have h: ∀(t t2 hs:List Int),(hangG a t t2 hs).length≤hs.length+2*t2.length:=by
    intro t t2
    induction t2 with
    |nil=>intro hs;rw[hangG];omega
    |cons x r ih=>
     intro hs
     have:=ih (hs++kidsL a t x)
     have:=kidsL_len a t x
     rw[List.length_append]at*
     rw[hangG,List.length_cons]
     omega
   have h1:=h (treeI a l).1 (treeI a l).1 []
   have h2:(treeI a l).1.length ≤5*l.length:=by
    unfold treeI
    cases hc:lchkI a l != 0 with
    |true=>exact Nat.zero_le _
    |false=>
     have h:=treeG_len (a+1).toNat (l.map fun x=>(leafI a x).1) []
     rw[List.length_map]at h
     have h5:=Nat.mul_le_mul (show(a+1).toNat≤5 by omega) (Nat.le_refl l.length)
     show(treeG (a+1).toNat (l.map fun x=>(leafI a x).1) []).length≤_
     simp only[List.length_nil]at h
     omega
   simp only[List.length_nil]at h1
   omega
theorem cover_len4 {h k:Int} {l:List Int} (hu: ∀y∈l,IntKind.u64.has y) (he:(coverI h k l).2=0) (h4:h≤4) (h16:l.length≤16):(coverI h k l).1.length ≤161:=by
 obtain⟨hl,hs,_,_,_⟩:=cover_ok hu he
 have d1:=diff_len1 hl hu
 have d2:=hang_len4 (l:=l) h4
 have d3:=partsF_len h (diffI h l).1
 unfold coverI at he⊢
 rw[partsI_eq]at he⊢
 rw[hs]at he⊢
 simp only[bne_self_eq_false,cond_false]at he⊢
 cases h2:k==1 with
 |true=>simp only[cond_true];unfold wholeS;rw[List.length_map];omega
 |false=>
  simp only[cond_false]
  cases h3:(bif (diffI h l).2 != 0 then true else k==2)with
  |true=>simp only[cond_true];omega
  |false=>
   simp only[cond_false]
   cases h4:partsX h (diffI h l).1 with
   |true=>exact Nat.zero_le _
   |false=>
    show(sortQ ([]++partsF h (diffI h l).1)).length≤_
    rw[(sortQ_perm _).length_eq,List.nil_append]
    omega
theorem chg_ok1 {W:ListT.D→Int→List Int×Int} (hW: ∀(h cp:Int) (l:List Int) (i:Int),(l.length:Int)≤cp→(W (h,cp,l) i).2=0→lokB h (W (h,cp,l) i).1=true∧((W (h,cp,l) i).1.length :Int)≤cp∧ ∀y∈(W (h,cp,l) i).1,y=i∨y∈l) {h cp n i:Int} {l:List Int} (hz:(chgR W (h,cp,l,n) i).2=0):rollE (chgR W (h,cp,l,n) i).1=0∧(chgR W (h,cp,l,n) i).1.1 =h∧ ∀y∈(chgR W (h,cp,l,n) i).1.2.2.1,y=i∨y∈l:=by
 unfold chgR at hz⊢
 cases h1:rollE (h,cp,l,n) != 0 with
 |true=>
  rw[h1]at hz
  have hz:rollE (h,cp,l,n)=0:=hz
  rw[hz]at h1;cases h1
 |false=>
  rw[h1]at hz
  obtain⟨⟨a1,a2,a3,a4⟩,_⟩:((l.length:Int)≤cp∧cp≤1024∧0≤n∧n≤1099511627776)∧_:=roll_ok (show rollE (h,cp,l,n)=0 by simpa using h1)
  cases h2:(W (h,cp,l) i).2 != 0 with
  |true=>
   have hz:(bif (W (h,cp,l) i).2 != 0 then(zeroR,(W (h,cp,l) i).2)else _:RollT.D×Int).2=0:=hz
   rw[h2]at hz
   have hz:(W (h,cp,l) i).2=0:=hz
   rw[hz]at h2;cases h2
  |false=>
   have hz:(bif (W (h,cp,l) i).2 != 0 then(zeroR,(W (h,cp,l) i).2)else bif n==1099511627776 then(zeroR,9)else((h,cp,(W (h,cp,l) i).1,IntKind.i64.wrap (n+1)),0):RollT.D×Int).2=0:=hz
   rw[h2]at hz
   cases h3:n==1099511627776 with
   |true=>rw[h3]at hz;exact absurd (show(9:Int)=0 from hz) (by decide)
   |false=>
    have h3:n≠1099511627776:=by simpa using h3
    have h2':(W (h,cp,l) i).2=0:=by simpa using h2
    obtain⟨v1,w3,v2⟩:=hW h cp l i a1 h2'
    simp only[cond_false]
    have hw:IntKind.i64.wrap (n+1)=n+1:=wrap64 (by omega) (by omega)
    rw[hw]
    exact⟨rollE_of w3 a2 (by omega) (by omega) v1,by first|trivial|rfl,v2⟩
theorem with_W: ∀(h cp:Int) (l:List Int) (i:Int),(l.length:Int)≤cp→(withL (h,cp,l) i).2=0→lokB h (withL (h,cp,l) i).1=true∧((withL (h,cp,l) i).1.length :Int)≤cp∧ ∀y∈(withL (h,cp,l) i).1,y=i∨y∈l:=fun h cp l i _ hz=>by
 obtain⟨w1,w2,w3⟩:withL (h,cp,l) i=withV h l i∧(withV h l i).2=0∧((withV h l i).1.length :Int)≤cp:=withL_ok hz
 obtain⟨v1,v2⟩:=withV_ok w2
 rw[w1]
 exact⟨v1,w3,v2⟩
theorem wout_W: ∀(h cp:Int) (l:List Int) (i:Int),(l.length:Int)≤cp→(woutL (h,cp,l) i).2=0→lokB h (woutL (h,cp,l) i).1=true∧((woutL (h,cp,l) i).1.length :Int)≤cp∧ ∀y∈(woutL (h,cp,l) i).1,y=i∨y∈l:=fun h cp l i hcp hz=>by
 change (woutV h l i).2=0 at hz
 show lokB h (woutV h l i).1=true∧((woutV h l i).1.length :Int)≤cp∧ ∀y∈(woutV h l i).1,y=i∨y∈l
 unfold woutV at hz⊢
 cases h1:fdE h l i != 0 with
 |true=>
  rw[h1]at hz
  have hz:fdE h l i=0:=hz
  rw[hz]at h1;cases h1
 |false=>
  rw[h1]at hz
  obtain⟨q1,q2,q3⟩:=fd_ok h1
  cases h2:fdB h l i with
  |false=>rw[h2]at hz;exact absurd (show(4:Int)=0 from hz) (by decide)
  |true=>
   have hf:=found_lt (fdB_true h2).2
   have hk:fdK h l i=bsPu l i:=by unfold fdK;rw[q1];rfl
   have hlen:=lok_len q2
   have hw1:IntKind.i64.wrap (((bsPu l i:Nat):Int)+1)=((bsPu l i+1:Nat):Int):=by rw[wrap64 (by omega) (by omega)];omega
   simp only[Bool.not_true,cond_false]
   rw[hk,hw1,Int.toNat_natCast,Int.toNat_natCast]
   have hs:=lok_sorted q2
   have hdl:=del_len (i:=bsPu l i) (j:=bsPu l i+1) (l:=l) (by omega) (by omega)
   have hmem: ∀y∈delL (bsPu l i) (bsPu l i+1) l,y∈l:=fun y hy=>by
    unfold delL at hy
    rcases List.mem_append.1 hy with h|h
    ·exact List.mem_of_mem_take h
    ·exact List.mem_of_mem_drop h
   refine⟨lok_of hlen.2.1 (by omega) ?_ fun x hx=>lok_leaf q2 x (hmem x hx),by omega,fun y hy=> .inr (hmem y hy)⟩
   unfold delL
   refine List.pairwise_append.2 ⟨hs.sublist (List.take_sublist ..),hs.sublist (List.drop_sublist ..),fun x hx y hy=> ?_⟩
   obtain⟨a,ha,rfl⟩:=List.getElem_of_mem hx
   obtain⟨b,hb,rfl⟩:=List.getElem_of_mem hy
   rw[List.getElem_take,List.getElem_drop]
   rw[List.length_take]at ha
   exact(List.pairwise_iff_getElem.1 hs) _ _ _ _ (by omega)
theorem chg_ok {W:ListT.D→Int→List Int×Int} (hW: ∀(h cp:Int) (l:List Int) (i:Int),(l.length:Int)≤cp→(W (h,cp,l) i).2=0→lokB h (W (h,cp,l) i).1=true∧((W (h,cp,l) i).1.length :Int)≤cp∧ ∀y∈(W (h,cp,l) i).1,y=i∨y∈l) {r:RollT.D} {i:Int} (h:(chgR W r i).2=0):
 rollE (chgR W r i).1=0∧(chgR W r i).1.1 =r.1∧ ∀y∈(chgR W r i).1.2.2.1,y=i∨y∈r.2.2.1 :=by
 obtain⟨a,cp,l,n⟩:=r
 exact chg_ok1 hW h
structure Ep (h k:Int) (y:Bool) (ds:List Block.D) (bm:Block.D) (tm:Nat) (c:CenT.D) (ks:List Value.D):Prop where
 ok:ChkOk c
 high:cH c=h
 sch:cK c=k
 kind:cY c=y
 dr:cD c=ds
 wu: ∀z∈rL (cR c),IntKind.u64.has z
 den:Den (cY c) bm tm (cL c) [] (cM c)
 ep:cE c=(ks.length:Int)
 cur:cA c=(ks.length:Int)+1
 len:(cL c).length≤1+ks.length*1775
 keys:y=true→ ∀q:Nat,q<ks.length→ ∃i:Nat,vaT ks q=symV i∧(cL c)[i]? =some (1,(q:Int)+1,0)
theorem sameS_self (a:Subset.D):sameS a a=true:=by unfold sameS;simp
section
variable {h k:Int} {y:Bool} {ds:List Block.D} {bm:Block.D} {tm:Nat} {c:CenT.D} {ks:List Value.D}
theorem Ep.bound (e:Ep h k y ds bm tm c ks) (hd:ds.length≤30):ks.length≤29∧(cL c).length≤51476:=by
 have h1:=e.ok.at1
 rw[e.cur,e.dr]at h1
 have h2:ks.length≤29:=by omega
 have h3:=e.len
 exact⟨h2,by omega⟩
theorem Ep.cen (e:Ep h k y ds bm tm c ks) (hd:ds.length≤30):cenS c=true:=by
 have hD:=e.ok.draws
 obtain⟨_,hl⟩:=e.bound hd
 obtain⟨hr,_⟩:=roll_ok e.ok.roll
 have hr1:((rL (cR c)).length:Int)≤(cR c).2.1 :=hr.1
 have hr2:(cR c).2.1 ≤(1024:Int):=hr.2.1
 have hr3:((rL (cR c)).length:Int)≤1024:=Int.le_trans hr1 hr2
 unfold cenS
 rw[decide_eq_true (show(rL (cR c)).length≤1000000 by omega),decide_eq_true (show(cD c).length≤1000000 by omega),small_of (show(cL c).length≤65536 by omega)];rfl
theorem chg_step {W:ListT.D→Int→List Int×Int} (hW: ∀(h cp:Int) (l:List Int) (i:Int),(l.length:Int)≤cp→(W (h,cp,l) i).2=0→lokB h (W (h,cp,l) i).1=true∧((W (h,cp,l) i).1.length :Int)≤cp∧ ∀y∈(W (h,cp,l) i).1,y=i∨y∈l)
 (e:Ep h k y ds bm tm c ks) (hd:ds.length≤30) {x q:Int} (hq:IntKind.u64.has q) (h2:(rm9 x==2)=false) (R:CK): ∃c',(∀N,aft9 N R c (chgC W c q).1 x (chgC W c q).2 ks=N c' ks)∧Ep h k y ds bm tm c' ks:=by
 obtain⟨_,hl⟩:=e.bound hd
 unfold chgC
 rw[e.ok.zero]
 simp only[bne_self_eq_false,cond_false]
 cases hz:(chgR W (cR c) q).2 != 0 with
 |true=>
  refine⟨c,fun N=> ?_,e⟩
  unfold aft9
  simp only[cond_true]
  rw[hz];rfl
 |false=>
  have hz0:(chgR W (cR c) q).2=0:=by simpa using hz
  obtain⟨q1,q2,q3⟩:=chg_ok hW hz0
  have hk:ChkOk (setR c (chgR W (cR c) q).1):=⟨e.ok.may,e.ok.start,e.ok.walk,e.ok.kind,q1,q2.trans e.ok.high,e.ok.ep0,e.ok.ep1,e.ok.draws,e.ok.at0,e.ok.at1⟩
  refine⟨setR c (chgR W (cR c) q).1,fun N=> ?_,⟨hk,e.high,e.sch,e.kind,e.dr,fun z hz=> ?_,e.den,e.ep,e.cur,e.len,e.keys⟩⟩
  ·have hc9:chk9 c (setR c (chgR W (cR c) q).1) x=false:=by
    unfold chk9
    rw[hk.zero,h2]
    show(bif bif (rm9 x != 2)then(bif cE c != cE c then true else cA c != cA c)else false then true else false)=false
    cases rm9 x != 2<;>simp
   unfold aft9
   simp only[cond_false,bne_self_eq_false]
   rw[hc9,show small24 (cL (setR c (chgR W (cR c) q).1)).length=true from small_of (show(cL c).length≤65536 by omega)];rfl
  ·rcases q3 z hz with rfl|hm
   ·exact hq
   ·exact e.wu z hm
theorem send_step (e:Ep h k y ds bm tm c ks) (h4:h≤4) (hd:ds.length≤30) (hwd: ∀z∈ds,WF Block z) {x:Int} (hx:IntKind.u64.has x) (h2:(rm9 x==2)=true) (R:CK):
 ∃c' ks',(∀N,snd9 N R h k y ds c x ks (sendC c (x,0))=N c' ks')∧Ep h k y ds bm tm c' ks':=by
 obtain⟨hkl,hl⟩:=e.bound hd
 have hz0:IntKind.u64.has 0:=⟨by decide,by decide⟩
 have hb:WF Block (x,0):=⟨hx,hz0⟩
 have hE:=e.ep
 have hA:=e.cur
 have hDl:(cD c).length=ds.length:=by rw[e.dr]
 have g2:(cE c==lastI (cY c))=false:=by
  have:(524287:Int)≤lastI (cY c):=by unfold lastI;cases cY c<;>decide
  exact beq_eq_false_iff_ne.2 (by omega)
 rcases Classical.em (cA c=((cD c).length:Int))with g3|g3
 ·refine⟨c,ks,fun N=> ?_,e⟩
  rw[sendC_none e.ok g3 g2]
  unfold snd9 aft9
  rw[g3,hDl]
  simp
 ·have hlok:lokB (cH c) (rL (cR c))=true:=by
   obtain⟨_,hlok⟩:=roll_ok e.ok.roll
   have:=hlok
   rw[e.ok.high]at this;exact this
  have h4':cH c≤4:=by rw[e.high];exact h4
  have hfew:=leaves_few hlok h4' e.wu
  have hcl:=cover_len4 e.wu (cover_law (mayI_sch e.ok.may) hlok e.wu).1 h4' hfew
  have hbd:(coverI (cH c) (cK c) (rL (cR c))).1.length *(2*(cH c).toNat+3)≤161*11:=Nat.mul_le_mul hcl (by omega)
  have g2':cE c≠lastI (cY c):=by simpa using g2
  obtain⟨c',hd',key,r,s1,sc⟩:=send_lawN (b:=(x,0)) e.ok e.wu (by rw[e.dr];exact hwd) hb (by omega) g2' g3
  have hs:=sendC_ok e.ok g2 s1
  rw[hs]
  have hsame:=sc.same
  have hrl:=sc.rlen
  obtain⟨u1,u2,u3⟩:=sc.hdr
  obtain⟨bk,tk,kd⟩:=sc.kden
  have dm2:=e.den.mono kd.good
  have hE0:=e.ok.ep0
  have hE1:=e.ok.ep1
  have hA0:=e.ok.at0
  have hA1:=e.ok.at1
  have hatom:=sc.atom
  obtain⟨bm',tm',_,sent⟩:=sc.sent
  have hcov2:=sc.cov.2
  subst hsame
  obtain⟨c',hc'⟩: ∃c':CenT.D,c'=(cH c,cK c,cY c,cM c,cR c,cE c+1,cD c,cA c+1,cL c++r):=⟨_,rfl⟩
  have f1:cE c'=cE c+1:=by rw[hc']
  have f2:cA c'=cA c+1:=by rw[hc']
  have f3:cR c'=cR c:=by rw[hc']
  have f4:cL c'=cL c++r:=by rw[hc']
  have hk':ChkOk c':=by
   rw[hc']
   exact⟨e.ok.may,dm2.startE,by show(walkV (cL c++r) (cM c) []).2.2 =0;rw[walk_nil dm2],e.ok.kind,e.ok.roll,e.ok.high,by show 0≤cE c+1;omega,by show cE c+1≤lastI (cY c);omega,e.ok.draws,by show 1≤cA c+1;omega,by show cA c+1≤((cD c).length:Int);omega⟩
  rw[←hc']
  have hll:(cL c').length≤1+(ks.length+1)*1775:=by
   rw[f4,List.length_append]
   have:=e.len
   omega
  have hnew: ∀q:Nat,q<ks.length→vaT (ks++[key]) q=vaT ks q:=fun q hq=>by
   unfold vaT
   rw[Int.toNat_natCast,List.getD_eq_getElem?_getD,List.getD_eq_getElem?_getD,List.getElem?_append_left hq]
  refine⟨c',ks++[key],fun N=> ?_,⟨hk',by rw[hc'];exact e.high,by rw[hc'];exact e.sch,by rw[hc'];exact e.kind,by rw[hc'];exact e.dr,by rw[f3];exact e.wu,by rw[hc'];exact dm2,by rw[f1,List.length_append];simp;omega,by rw[f2,List.length_append];simp;omega,by rw[List.length_append];exact hll,fun hy q hq=> ?_⟩⟩
  ·have w1:IntKind.i64.wrap (cE c+1)=cE c+1:=wrap64 (by omega) (by omega)
   have w2:IntKind.i64.wrap (cA c+1)=cA c+1:=wrap64 (by omega) (by omega)
   have hcv:cov9 h k c=coverI (cH c) (cK c) (rL (cR c)):=by unfold cov9;rw[e.high,e.sch]
   have hsl:(hL hd').length=(coverI (cH c) (cK c) (rL (cR c))).1.length :=sent.1
   have hhd:hd9 h k c (hd',key,c',0)=false:=by
    unfold hd9
    rw[hcv,hcov2,w1,w2]
    show(bif bif bif bif bif bif ((0:Int) != 0)then true else((hL hd').length:Int) != (coverI (cH c) (cK c) (rL (cR c))).1.length then true else hd'.2.2.1 != cE c+1 then true else cA c' != cA c+1 then true else cE c' != hd'.2.2.1 then true else hd'.2.1 != h then true else hd'.1 != k)=false
    rw[hsl,u3,f1,f2,←u1,←u2,e.high,e.sch]
    simp
   have hbB:anyK (fun j=>badB (hL hd') (coverI (cH c) (cK c) (rL (cR c))).1 j) (hL hd').length 0=false:=anyK_false _ _ fun q _ hq=>by
    obtain⟨key2,x2,e2,_⟩:=sent.2 q (by omega)
    unfold badB
    have e2:pAt (hL hd') q=(sAt (coverI (cH c) (cK c) (rL (cR c))).1 q,x2):=by unfold pAt;rw[Int.toNat_natCast];exact e2
    rw[e2,sameS_self];rfl
   have hbC:anyK (fun j=>badC y ks key j) ks.length 0=false:=anyK_false _ _ fun q _ hq=>by
    unfold badC
    cases hy:y with
    |false=>rfl
    |true=>
     show valEq (vaT ks q) key=false
     obtain⟨i,a1,a2⟩:=e.keys hy q (by omega)
     obtain⟨i',b1,b2⟩:=hatom (e.kind.trans hy)
     cases hv:valEq (vaT ks q) key with
     |false=>rfl
     |true=>
      exfalso
      have hv:=valEq_iff.1 hv
      rw[a1,b1]at hv
      have hi:(i:Int)=(i':Int):=congrArg (fun v:Value.D=>v.2.2.2.2) hv
      obtain rfl:i=i':=by omega
      have hlt:=(List.getElem?_eq_some_iff.1 a2).1
      rw[List.getElem?_append_left hlt,a2]at b2
      have h9:((1:Int),(q:Int)+1,(0:Int))=(1,cA c,0):=Option.some.inj b2
      have:(q:Int)+1=cA c:=congrArg (fun t:Int×Int×Int=>t.2.1) h9
      omega
   have hc9:chk9 c c' x=false:=by
    unfold chk9
    rw[hk'.zero,h2,f3,sameR_self]
    rw[show(rm9 x != 2)=false by unfold bne;rw[h2];rfl];rfl
   have hA2:(cA c==(ds.length:Int))=false:=beq_eq_false_iff_ne.2 (by omega)
   unfold snd9
   simp only[hA2,hhd]
   rw[hcv,hsl]
   rw[hsl]at hbB
   simp only[allK_two,hbB]
   unfold lst9
   simp only[allK_two,hbC]
   unfold aft9
   rw[hc9,show small24 (cL c').length=true from small_of (by omega),decide_eq_true (show((coverI (cH c) (cK c) (rL (cR c))).1.length :Int)≤9223372036854775807 by omega),decide_eq_true (show(ks.length:Int)≤9223372036854775807 by omega),
    decide_eq_true (show(ks.length+[key].length)*64≤140737488355328 by simp;omega)]
   simp
  ·rw[List.length_append]at hq
   have hq:q<ks.length+1:=hq
   rcases Nat.lt_or_eq_of_le (Nat.le_of_lt_succ hq)with hlt|rfl
   ·obtain⟨i,a1,a2⟩:=e.keys hy q hlt
    have:=(List.getElem?_eq_some_iff.1 a2).1
    exact⟨i,(hnew q hlt).trans a1,by rw[f4,List.getElem?_append_left this];exact a2⟩
   ·obtain⟨i',b1,b2⟩:=hatom (e.kind.trans hy)
    refine⟨i', ?_,by rw[f4,b2,hA]⟩
    unfold vaT
    rw[Int.toNat_natCast,List.getD_eq_getElem?_getD,List.getElem?_append_right (Nat.le_refl _),Nat.sub_self]
    exact b1
theorem act_step (e:Ep h k y ds bm tm c ks) (h4:h≤4) (hd:ds.length≤30) (hwd: ∀z∈ds,WF Block z) {x:Int} (hx:IntKind.u64.has x) (R:CK):
 ∃c' ks',(∀N,act9 N R h k y ds c ks x=N c' ks')∧Ep h k y ds bm tm c' ks':=by
 have hx0:0≤x:=hx.1
 have hx1:x≤18446744073709551615:=hx.2
 have hrm:rm9 x=x%3:=by unfold rm9;exact Int.tmod_eq_emod_of_nonneg hx0
 have hqt:IntKind.u64.has (qt9 x):=by
  unfold qt9
  rw[Int.tdiv_eq_ediv_of_nonneg hx0]
  have:IntKind.u64.wrap (x/3)=x/3:=by rw[IntKind.wrap_u64];omega
  rw[this]
  exact⟨by show(0:Int)≤x/3;omega,by show x/3≤18446744073709551615;omega⟩
 obtain⟨_,hl⟩:=e.bound hd
 unfold act9
 rw[e.cen hd,small_of (show(cL c).length≤65536 by omega)]
 simp only[cond_true]
 cases r0:rm9 x==0 with
 |true=>
  have r0':rm9 x=0:=by simpa using r0
  obtain⟨c',h1,h2⟩:=chg_step with_W e hd hqt (x:=x) (by rw[r0'];decide) R
  exact⟨c',ks,h1,h2⟩
 |false=>
  cases r1:rm9 x==1 with
  |true=>
   have r1':rm9 x=1:=by simpa using r1
   obtain⟨c',h1,h2⟩:=chg_step wout_W e hd hqt (x:=x) (by rw[r1'];decide) R
   exact⟨c',ks,h1,h2⟩
  |false=>
   have r0:rm9 x≠0:=by simpa using r0
   have r1:rm9 x≠1:=by simpa using r1
   exact send_step e h4 hd hwd hx (beq_iff_eq.2 (by omega)) R
theorem go_law (h4:h≤4) (hd:ds.length≤30) (hwd: ∀z∈ds,WF Block z) {l:List Int} (hl: ∀z∈l,IntKind.u64.has z): ∀(m j:Nat) (c:CenT.D) (ks:List Value.D),j+m=l.length→Ep h k y ds bm tm c ks→
 go9 h k y ds l (fun _ _ _=>oB7 false) (fun c ks=>oB7 (fin9 c ks)) m j c ks=oB7 true:=by
 intro m
 induction m with
 |zero=>
  intro j c ks _ e
  unfold go9 fin9
  obtain⟨h1,_⟩:=e.bound hd
  rw[e.ep,e.cur,wrap64 (n:=(ks.length:Int)+1) (by omega) (by omega)]
  simp
 |succ m ih=>
  intro j c ks hj e
  have hx:IntKind.u64.has (bsAu l j):=by
   rw[bsAu_at (show j<l.length by omega)]
   exact hl _ (List.getElem_mem _)
  obtain⟨c',ks',h1,h2⟩:=act_step e h4 hd hwd hx (fun _ _=>oB7 false)
  unfold go9
  rw[h1]
  exact ih (j+1) c' ks' (by omega) h2
end
theorem setup_ep {h k room:Int} {y:Bool} {ds:List Block.D} (hwd: ∀z∈ds,WF Block z) (hz:(setupV h k y room ds).2=0): ∃bm tm,Ep h k y ds bm tm (setupV h k y room ds).1 []:=by
 unfold setupV at hz⊢
 cases hb:setB h k room ds with
 |true=>rw[hb]at hz;exact absurd (show(1:Int)=0 from hz) (by decide)
 |false=>
  rw[hb]at hz
  have hb2:=hb
  unfold setB at hb2
  cases b1:(rollV h room).2 != 0 with
  |true=>rw[b1]at hb2;cases hb2
  |false=>
  cases b2:(mayI h k (1,0)).2 != 0 with
  |true=>rw[b1,b2]at hb2;cases hb2
  |false=>
  rw[b1,b2]at hb2
  have b3: ¬((ds.length:Int)>4096):=of_decide_eq_false hb2
  have r1:rollE (h,room,[],0)=0∧(rollV h room).1=(h,room,[],0):=by
   unfold rollV at b1⊢
   cases hr:rollE (h,room,[],0) != 0 with
   |true=>rw[hr]at b1;exact absurd b1 (by rw[cond_true];simp at hr;simp [hr])
   |false=>exact⟨by simpa using hr,rfl⟩
  have b2:(mayI h k (1,0)).2=0:=by simpa using b2
  simp only[cond_false]at hz⊢
  cases hd:(drawV (newC h k y room ds)).1.2 != 0 with
  |true=>
   rw[hd]at hz
   have hz:(drawV (newC h k y room ds)).1.2 =0:=hz
   rw[hz]at hd;cases hd
  |false=>
   simp only[cond_false]
   have hg:GoodL []:=checkL_iff.1 (by kernel_rfl)
   have hn:((0:Int)==(ds.length:Int))=false:=by
    cases h0:(0:Int)==(ds.length:Int)with
    |false=>rfl
    |true=>
     have:(drawV (newC h k y room ds)).1.2 =10:=by
      unfold drawV
      show(bif (0:Int)==(ds.length:Int)then((zeroV,(10:Int)),newC h k y room ds)else _).1.2 =10
      rw[h0];rfl
     rw[this]at hd;cases hd
   have hn':(0:Int)≠(ds.length:Int):=by simpa using hn
   obtain⟨v,r,e,a1,w1,⟨bm,tm,d⟩,_,s1⟩:=atom_law (sym:=y) (l:=[]) hg (by simp) (n:=0) (by decide) (by decide) (getD_wf hwd (0:Int).toNat)
   have hat:atm (newC h k y room ds)=(v,[]++r,0):=e
   have hdr:drawV (newC h k y room ds)=((v,0),setAL (newC h k y room ds) 1 r):=by
    unfold drawV
    show(bif (0:Int)==(ds.length:Int)then((zeroV,(10:Int)),newC h k y room ds)else bif (atm (newC h k y room ds)).2.2 != 0 then((zeroV,(atm (newC h k y room ds)).2.2),newC h k y room ds)else(((atm (newC h k y room ds)).1,0),setAL (newC h k y room ds) (IntKind.i64.wrap (0+1)) (atm (newC h k y room ds)).2.1))=_
    rw[hn,hat,wrap64 (by omega) (by omega)];rfl
   rw[hdr]
   have d:Den y bm tm r [] v:=d
   have hc:setM (setAL (newC h k y room ds) 1 r) v=(h,k,y,v,(h,room,[],0),0,ds,1,r):=by
    show(h,k,y,v,(rollV h room).1,(0:Int),ds,(1:Int),r)=_
    rw[r1.2]
   show ∃bm tm,Ep h k y ds bm tm (setM (setAL (newC h k y room ds) 1 r) v) []
   rw[hc]
   refine⟨bm,tm,⟨⟨b2,d.startE,by show(walkV r v []).2.2 =0;rw[walk_nil d],d.facts.2.2.2.1,r1.1,rfl,Int.le_refl _,by show(0:Int)≤lastI y;unfold lastI;cases y<;>decide,by show ds.length≤4096;omega,Int.le_refl _,by show(1:Int)≤(ds.length:Int);omega⟩,rfl,rfl,rfl,rfl,(fun z hz=>by cases hz),d,rfl,rfl,by show r.length≤1+0*1775;omega,fun _ q hq=>absurd hq (Nat.not_lt_zero q)⟩⟩
theorem law809 {h k room:Int} {y:Bool} {ds:List Block.D} {l:List Int} (hwd: ∀z∈ds,WF Block z) (hl: ∀z∈l,IntKind.u64.has z):
 (bif big9 h ds l then oB7 true else bif (setupV h k y room ds).2 != 0 then oB7 true else
  bif decide ((l.length:Int)=l.length)&&decide ((l.length:Int)≤9223372036854775807)then go9 h k y ds l (fun _ _ _=>oB7 false) (fun c ks=>oB7 (fin9 c ks)) l.length 0 (setupV h k y room ds).1 []else none)=oB7 true:=by
 cases hb:big9 h ds l with
 |true=>rfl
 |false=>
  unfold big9 at hb
  cases b1:decide (h>4)with
  |true=>rw[b1]at hb;cases hb
  |false=>
  cases b2:decide ((ds.length:Int)>30)with
  |true=>rw[b1,b2]at hb;cases hb
  |false=>
  rw[b1,b2]at hb
  have b1:=of_decide_eq_false b1
  have b2:=of_decide_eq_false b2
  have b3: ¬((l.length:Int)>30):=of_decide_eq_false hb
  simp only[cond_false]
  cases hz:(setupV h k y room ds).2 != 0 with
  |true=>rfl
  |false=>
   obtain⟨bm,tm,e⟩:=setup_ep hwd (show(setupV h k y room ds).2=0 by simpa using hz)
   rw[decide_eq_true (show(l.length:Int)≤9223372036854775807 by omega)]
   simp only[decide_true,Bool.and_self,cond_true,cond_false]
   exact go_law (by omega) (by omega) hwd hl l.length 0 _ [] (by omega) e
theorem good809 (x:ADen A809):Good Tryz.prog N809 (encA A809 x) (.one (.bool true)):=by
 have g:GoodS Tryz.prog N809 (.fn A809 fun _=>(true,.one (.bool true))):=by
  refine good (.cons g814 (.cons g836 (.cons g837 (.cons g838 (.cons g817 (.cons g322 (.cons g839 (.cons g822 (.nil _))))))))) H809 rfl (by kernel_rfl) Λ809 lay809 (threeLoops (p0:=loopK F809 0) (p1:=loopK F809 1) (p2:=loopK F809 2) (by kernel_rfl) loop809 (loop809b _) (loop809c _)) A809 (by decide) [] _ fun x r hw e=> ?_
  obtain⟨h,k,y,room,ds,l⟩:=x
  cases e
  refine(r809 h k y room ds l).trans ?_
  exact law809 hw.2.2.2.2.1.2 hw.2.2.2.2.2.2
 exact g.2.1 _ _ (by kernel_rfl)
end Go.AM.Seat
