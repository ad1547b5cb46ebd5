import Derived.Test.YthnonmlhgafalaaGreatXSl1
set_option linter.unusedVariables false
set_option linter.unusedSimpArgs false
set_option maxRecDepth 100000
namespace Go.AM.Seat
open Go Go.AM Go.Proofs
def badS (h:Int) (s:Subset.D):Bool:=subE h s != 0
def hasS (h i:Int) (s:Subset.D):Bool:=bif (hasI h s i).2==0 then(hasI h s i).1 else false
theorem r340 (s:Subset.D) (h:Int):run (orc [(N341,s341)]) noL [] F340 [encV Subset s,.one (.rp false I h 0)] []=some (.one (.bool (badS h s))):=by kernel_rfl
def s340:Sp:= .fn [.v Subset,.raw] fun x=>match x.2 with
 | .one (.rp false (.int .i64) h 0)=>(true,.one (.bool (badS h x.1)))
 |_=>(false,AV.junk)
theorem g340:GoodS Tryz.prog N340 s340:=by
 refine good (.cons g341 (.nil _)) H340 rfl (by kernel_rfl) noL [] (noLoops (by kernel_rfl)) [.v Subset,.raw] (by decide) [] _ fun x r hw h=> ?_
 obtain⟨s,c⟩:=x
 simp only at h
 split at h
 ·rename_i i
  cases h
  exact r340 s i
 ·cases h
theorem r343 (s:Subset.D) (h i:Int):run (orc [(N312,s312)]) noL [] F343 [encV Subset s,.one (.rp false I h 0),.one (.rp false U i 0)] []=some (.one (.bool (hasS h i s))):=by kernel_rfl
def s343:Sp:= .fn [.v Subset,.raw,.raw] fun x=>match x.2.1,x.2.2 with
 | .one (.rp false (.int .i64) h 0),.one (.rp false (.int .u64) i 0)=>(true,.one (.bool (hasS h i x.1)))
 |_,_=>(false,AV.junk)
theorem g343:GoodS Tryz.prog N343 s343:=by
 refine good (.cons g312 (.nil _)) H343 rfl (by kernel_rfl) noL [] (noLoops (by kernel_rfl)) [.v Subset,.raw,.raw] (by decide) [] _ fun x r hw h=> ?_
 obtain⟨s,c,d⟩:=x
 simp only at h
 split at h
 ·rename_i h' i
  cases h
  exact r343 s h' i
 ·cases h
def idxP (f:Subset.D→Bool):List Subset.D→Int→Int
 |[],_=> -1
 |x::xs,i=>bif f x then i else idxP f xs (i+1)
theorem idxP_ge (p:Subset.D→Bool): ∀(xs:List Subset.D) (i:Int),idxP p xs i= -1∨i≤idxP p xs i:=by
 intro xs
 induction xs with
 |nil=>intro i;exact .inl rfl
 |cons x xs ih=>
  intro i
  simp only[idxP]
  cases p x with
  |true=>exact .inr (Int.le_refl i)
  |false=>rcases ih (i+1)with h|h
          ·exact .inl h
          ·exact .inr (by simp only[cond_false];omega)
def clA (h:Int):AV:= .one (.fn N340 [.ptrD false I h])
def clB (h i:Int):AV:= .one (.fn N343 [.ptrD false I h,.ptrD false U i])
def clS (c:AV):Option (Subset.D→Bool):=
 match c with
 | .one (.fn f [.ptrD false (.int .i64) h])=>bif Nat.beq f N340 then some (badS h)else none
 | .one (.fn f [.ptrD false (.int .i64) h,.ptrD false (.int .u64) i])=>bif Nat.beq f N343 then some (hasS h i)else none
 |_=>none
theorem clS_some {c:AV} {p:Subset.D→Bool} (h:clS c=some p):(∃k,c=clA k∧p=badS k)∨ ∃k i,c=clB k i∧p=hasS k i:=by
 unfold clS at h
 split at h
 ·rename_i f k
  cases hf:Nat.beq f N340 with
  |false=>rw[hf]at h;cases h
  |true=>
   rw[hf]at h
   cases h
   obtain rfl:=Nat.eq_of_beq_eq_true hf
   exact .inl ⟨k,rfl,rfl⟩
 ·rename_i f k i
  cases hf:Nat.beq f N343 with
  |false=>rw[hf]at h;cases h
  |true=>
   rw[hf]at h
   cases h
   obtain rfl:=Nat.eq_of_beq_eq_true hf
   exact .inr ⟨k,i,rfl,rfl⟩
 ·cases h
abbrev live342:List (Nat×Dir):=[(0,.keep),(1,.keep),(4,.keep),(7,.keep),(8,.keep)]
def vs342 (l:List Subset.D) (c:AV) (r n i:Int):List AV:=[.one (.sl false Subset none l),c,.one (.int .i64 r),.one (.int .i64 n),.one (.int .i64 i)]
def Γ342:Orc:=orc [(N340,s340),(N343,s343)]
def Λ342:Lam AV:=fun cur vs K=>
 match cur,vs with
 |0,[.one (.sl false (.pair (.int .u64) (.int .u64)) none l),c,.one (.int .i64 r),.one (.int .i64 n),.one (.int .i64 0)]=>
  match clS c with
  |some p=>
   bif decide (n=l.length)&&decide (n≤9223372036854775807)then
    bif decide (idxP p l 0<0)then K (.exit 0) (vs342 l c r n n)else K .ret (vs342 l c (idxP p l 0) n (idxP p l 0))
   else none
  |none=>none
 |_,_=>none
noncomputable abbrev lp342 (Λ:Lam AV) (K:AE→List AV→Option AV) (fuel:Nat) (vs:List AV):Option AV:=loopN (aexec tb Γ342 Λ ⟨19,0,[(0,live342)]⟩ (loopK F342 0).2 0) 19 0 live342 K fuel vs
theorem step342a (l:List Subset.D) (h:Int) (r n i:Int) (Λ:Lam AV) (fuel:Nat) (K:AE→List AV→Option AV):lp342 Λ K (fuel+1) (vs342 l (clA h) r n i)=
 bif decide (i<n)then bif inB i l.length then bif badS h (sAt l i)then K .ret (vs342 l (clA h) i n i)else lp342 Λ K fuel (vs342 l (clA h) r n (IntKind.i64.wrap (i+1)))else none else K (.exit 0) (vs342 l (clA h) r n i):=by kernel_rfl
theorem step342b (l:List Subset.D) (h x:Int) (r n i:Int) (Λ:Lam AV) (fuel:Nat) (K:AE→List AV→Option AV):lp342 Λ K (fuel+1) (vs342 l (clB h x) r n i)=
 bif decide (i<n)then bif inB i l.length then bif hasS h x (sAt l i)then K .ret (vs342 l (clB h x) i n i)else lp342 Λ K fuel (vs342 l (clB h x) r n (IntKind.i64.wrap (i+1)))else none else K (.exit 0) (vs342 l (clB h x) r n i):=by kernel_rfl
theorem step342 {l:List Subset.D} {c:AV} {p:Subset.D→Bool} (hc:clS c=some p) (r n i:Int) (Λ:Lam AV) (fuel:Nat) (K:AE→List AV→Option AV):lp342 Λ K (fuel+1) (vs342 l c r n i)=
 bif decide (i<n)then bif inB i l.length then bif p (sAt l i)then K .ret (vs342 l c i n i)else lp342 Λ K fuel (vs342 l c r n (IntKind.i64.wrap (i+1)))else none else K (.exit 0) (vs342 l c r n i):=by
 rcases clS_some hc with⟨k,rfl,rfl⟩|⟨k,x,rfl,rfl⟩
 ·exact step342a l k r n i Λ fuel K
 ·exact step342b l k x r n i Λ fuel K
theorem loop342:LoopP tb Γ342 Λ342 ⟨19,0,[(0,live342)]⟩ (loopK F342 0):=by
 intro vs K out e
 have hcur:(loopK F342 0).1=0:=by kernel_rfl
 rw[hcur]at e⊢
 unfold Λ342 at e
 split at e
 ·rename_i l c r n _
  split at e
  ·rename_i p hp
   cases hc:(decide (n=l.length)&&decide (n≤9223372036854775807))with
   |false=>rw[hc]at e;cases e
   |true=>
    rw[hc]at e
    simp only[cond_true]at e
    simp only[Bool.and_eq_true,decide_eq_true_eq]at hc
    obtain⟨rfl,hmax⟩:=hc
    refine upLoop (α:=Unit) (n:=l.length) (F:=fun fuel _ i=>lp342 Λ342 K fuel (vs342 l c r l.length i))
     (G:=fun j _=>bif decide (idxP p (l.drop j) j<0)then K (.exit 0) (vs342 l c r l.length l.length)else K .ret (vs342 l c (idxP p (l.drop j) j) l.length (idxP p (l.drop j) j)))
     (fun fuel _=> ?_) (fun _ j hj=> ?_) l.length 0 () out (by omega) e
    ·simp only[step342 hp,nlt_dec,cond_false,List.drop_length,idxP];rfl
    ·cases hx:p (sAt l j)with
     |true=>
      right;intro fuel
      have h0:decide ((j:Int)<0)=false:=by simp
      simp only[step342 hp,lt_dec hj,inB_lt hj,hx,cond_true,cond_false,sAt_drop hj,idxP,h0]
     |false=>
      left;refine⟨(),fun fuel=> ?_, ?_⟩
      ·simp only[step342 hp,lt_dec hj,inB_lt hj,hx,cond_true,cond_false]
       rw[wrap64 (by omega) (by omega)];rfl
      ·simp only[sAt_drop hj,idxP,hx,cond_false];rfl
  ·cases e
 ·cases e
def idxR (p:Subset.D→Bool) (l:List Subset.D):Option AV:=
 bif decide ((l.length:Int)=l.length)&&decide ((l.length:Int)≤9223372036854775807)then bif decide (idxP p l 0<0)then some (.one (.int .i64 (-1)))else some (.one (.int .i64 (idxP p l 0)))else none
theorem r342a (l:List Subset.D) (h:Int):run Γ342 Λ342 [(0,live342)] F342 [.one (.sl false Subset none l),clA h] []=idxR (badS h) l:=by kernel_rfl
theorem r342b (l:List Subset.D) (h i:Int):run Γ342 Λ342 [(0,live342)] F342 [.one (.sl false Subset none l),clB h i] []=idxR (hasS h i) l:=by kernel_rfl
def s342:Sp:= .fn [.v (.sl Subset),.raw] fun x=>match clS x.2 with
 |some p=>(true,.one (.int .i64 (idxP p x.1 0)))
 |none=>(false,AV.junk)
theorem g342:GoodS Tryz.prog N342 s342:=by
 refine good (.cons g340 (.cons g343 (.nil _))) H342 rfl (by kernel_rfl) Λ342 [(0,live342)] (oneLoop (p0:=loopK F342 0) (by kernel_rfl) loop342) [.v (.sl Subset),.raw] (by decide) [] _ fun x r hw h=> ?_
 obtain⟨l,c⟩:=x
 simp only at h
 split at h
 ·rename_i p hp
  have fin:idxR p l=some (.one (.int .i64 (idxP p l 0))):=by
   unfold idxR
   rw[lenMax hw.1.1]
   rcases idxP_ge p l 0 with h|h
   ·rw[h];rfl
   ·have:decide (idxP p l 0<0)=false:=by simpa using h
    rw[this];rfl
  cases h
  rcases clS_some hp with⟨k,rfl,rfl⟩|⟨k,i,rfl,rfl⟩
  ·exact(r342a l k).trans fin
  ·exact(r342b l k i).trans fin
 ·cases h
theorem r339 (l:List Subset.D) (h:Int):run (orc [(N342,s342)]) noL [] F339 [.one (.sl false Subset none l),clA h] []=some (.one (.bool (decide (idxP (badS h) l 0≥0)))):=by kernel_rfl
def s339:Sp:= .fn [.v (.sl Subset),.raw] fun x=>match x.2 with
 | .one (.fn f [.ptrD false (.int .i64) h])=>(Nat.beq f N340,.one (.bool (decide (idxP (badS h) x.1 0≥0))))
 |_=>(false,AV.junk)
theorem g339:GoodS Tryz.prog N339 s339:=by
 refine good (.cons g342 (.nil _)) H339 rfl (by kernel_rfl) noL [] (noLoops (by kernel_rfl)) [.v (.sl Subset),.raw] (by decide) [] _ fun x r hw h=> ?_
 obtain⟨l,c⟩:=x
 simp only at h
 split at h
 ·rename_i f k
  cases hf:Nat.beq f N340 with
  |false=>rw[hf]at h;cases h
  |true=>
   rw[hf]at h
   cases h
   obtain rfl:=Nat.eq_of_beq_eq_true hf
   exact r339 l k
 ·cases h
def firstI (h i:Int) (l:List Subset.D):Int×Int:=bif (leafI h i).2 != 0 then(0,1)else bif decide (idxP (badS h) l 0≥0)then(0,1)else bif decide (idxP (hasS h i) l 0<0)then(0,4)else(idxP (hasS h i) l 0,0)
def Γ315:Orc:=orc [(N323,s323),(N339,s339),(N342,s342)]
theorem r315 (h i:Int) (l:List Subset.D):run Γ315 noL [] F315 (encA [.v I,.v U,.v (.sl Subset)] (h,i,l)) []=
 bif (leafI h i).2 != 0 then some (ri2 0 1)else bif decide (idxP (badS h) l 0≥0)then some (ri2 0 1)else bif decide (idxP (hasS h i) l 0<0)then some (ri2 0 4)else some (ri2 (idxP (hasS h i) l 0) 0):=by kernel_rfl
def s315:Sp:= .fn [.v I,.v U,.v (.sl Subset)] fun x=>(true,ri2 (firstI x.1 x.2.1 x.2.2).1 (firstI x.1 x.2.1 x.2.2).2)
theorem g315:GoodS Tryz.prog N315 s315:=by
 refine good (.cons g323 (.cons g339 (.cons g342 (.nil _)))) H315 rfl (by kernel_rfl) noL [] (noLoops (by kernel_rfl)) [.v I,.v U,.v (.sl Subset)] (by decide) [] _ fun x r hw e=> ?_
 obtain⟨h,i,l⟩:=x
 cases e
 refine(r315 h i l).trans ?_
 show _=some (ri2 (firstI h i l).1 (firstI h i l).2)
 unfold firstI
 cases (leafI h i).2 != 0 with
 |true=>rfl
 |false=>
  simp only[cond_false]
  cases decide (idxP (badS h) l 0≥0)with
  |true=>rfl
  |false=>
   simp only[cond_false]
   cases decide (idxP (hasS h i) l 0<0)<;>rfl
def allK (R:Nat→Option AV) (E:Option AV) (bad:Nat→Bool):Nat→Nat→Option AV
 |0,_=>E
 |m+1,j=>bif bad j then R j else allK R E bad m (j+1)
theorem bad_iff {h n:Int}:badN h n=false↔highB h=true∧1≤n∧depI n≤h:=by
 refine⟨bad_false,fun⟨h1,h2,h3⟩=> ?_⟩
 unfold badN
 rw[h1,decide_eq_false (show ¬n<1 by omega)]
 exact decide_eq_false (by omega)
theorem dep_nat {n:Int} (h:1≤n):depI n=(n.toNat.log2:Int):=by
 obtain⟨m,rfl⟩:=Int.eq_ofNat_of_zero_le (show 0≤n by omega)
 unfold depI
 rw[lenI_nat (by omega)]
 show((m.log2:Int)+1)-1=_
 rw[Int.toNat_natCast];omega
theorem chk_nat {h n:Int} (h0:0≤n):chkI h n=bif okN h.toNat n.toNat then 0 else 1:=by
 have key:badN h n= !okN h.toNat n.toNat:=by
  cases ho:okN h.toNat n.toNat with
  |true=>
   obtain⟨h1,h2,h3,h4⟩:=okN_iff.1 ho
   refine bad_iff.2 ⟨highB_iff.2 (by omega),by omega, ?_⟩
   rw[dep_nat (by omega)]
   have:=(okN_log (h:=h.toNat) (n:=n.toNat) (by omega)).1 h4
   omega
  |false=>
   cases hb:badN h n with
   |true=>rfl
   |false=>
    obtain⟨h1,h2,h3⟩:=bad_iff.1 hb
    have h1:=highB_iff.1 h1
    rw[dep_nat h2]at h3
    have:okN h.toNat n.toNat=true:=okN_iff.2 ⟨by omega,by omega,by omega,(okN_log (by omega)).2 (by omega)⟩
    rw[this]at ho;cases ho
 unfold chkI;rw[key]
 cases okN h.toNat n.toNat<;>rfl
theorem shl_nat {a k:Nat} (hk:k≤64) (h:a*2^k<2^64):shlI a k=((a*2^k:Nat):Int):=by
 unfold shlI
 rw[Int.toNat_natCast,Nat.min_eq_left hk,wrapU]
 ·simp
 ·exact Int.mul_nonneg (by omega) (Int.le_of_lt (Int.pow_pos (by decide)))
 ·have:((a*2^k:Nat):Int)<18446744073709551616:=by omega
  have e:((a*2^k:Nat):Int)=(a:Int)*2^k:=by simp
  rw[←e];omega
theorem pow32 {h:Nat} (h1:h≤32):2^h≤2^32:=Nat.pow_le_pow_right (by decide) h1
theorem or_nat {a b:Nat} (ha:a<2^64) (hb:b<2^64):orU a b=((a|||b:Nat):Int):=by
 unfold orU
 have e1:(BitVec.ofInt 64 (a:Int)).toNat=a:=by rw[BitVec.toNat_ofInt];omega
 have e2:(BitVec.ofInt 64 (b:Int)).toNat=b:=by rw[BitVec.toNat_ofInt];omega
 rw[BitVec.toNat_or,e1,e2,wrapU]
 ·omega
 ·have:=Nat.or_lt_two_pow ha hb;omega
def leafV (h i:Nat):Int×Int:=bif decide (1≤h)&&decide (h≤32)then bif decide (i<2^h)then((leafN h i:Nat),0)else(0,4)else(0,1)
theorem leaf_nat {h i:Int} (h0:0≤i) (h1:i.toNat<2^64):leafI h i=leafV h.toNat i.toNat:=by
 unfold leafI leafV
 cases hh:highB h with
 |false=>
  have: ¬(1≤h∧h≤32):=fun h=>by rw[highB_iff.2 h]at hh;cases hh
  have e:(decide (1≤h.toNat)&&decide (h.toNat≤32))=false:=by
   cases h2:decide (1≤h.toNat)with
   |false=>rfl
   |true=>exact decide_eq_false (by have:=of_decide_eq_true h2;omega)
  rw[e];rfl
 |true=>
  have h2:=highB_iff.1 hh
  have e:(decide (1≤h.toNat)&&decide (h.toNat≤32))=true:=by simp;omega
  rw[e]
  simp only[Bool.not_true,cond_true,cond_false]
  have e2:h=(h.toNat:Int):=by omega
  rw[shr_nat h0 (by omega)]
  have hp:=pow32 (h:=h.toNat) (by omega)
  have hp0:=Nat.two_pow_pos h.toNat
  cases hi:decide (i.toNat<2^h.toNat)with
  |false=>
   have hi:=of_decide_eq_false hi
   have:0<i.toNat/2^h.toNat:=Nat.div_pos (by omega) hp0
   rw[decide_eq_true (by omega)];rfl
  |true=>
   have hi:=of_decide_eq_true hi
   have:i.toNat/2^h.toNat=0:=Nat.div_eq_of_lt hi
   rw[this,decide_eq_false (by omega)]
   simp only[cond_false,cond_true]
   have e3:shlI 1 h=((2^h.toNat:Nat):Int):=by
    have:=shl_nat (a:=1) (k:=h.toNat) (by omega) (by omega)
    rw[←e2,Nat.one_mul]at this;exact this
   have e4:i=(i.toNat:Int):=by omega
   have e5:orU (shlI 1 h) i=((leafN h.toNat i.toNat:Nat):Int):=by
    rw[e3,e4,or_nat (by omega) (by omega)]
    have:=Nat.two_pow_add_eq_or_of_lt hi 1
    rw[Nat.mul_one]at this
    rw[Int.toNat_natCast,←this];rfl
   rw[e5]
theorem above_nat {a b:Int} (ha:1≤a) (hb:1≤b) (h64:b.toNat<2^64):aboveB a b=abv a.toNat b.toNat:=by
 unfold aboveB abv
 rw[dep_nat ha,dep_nat hb]
 have hl:b.toNat.log2<64:=(Nat.log2_lt (by omega)).2 h64
 cases h:decide (a.toNat.log2≤b.toNat.log2)with
 |false=>
  rw[decide_eq_false (by have:=of_decide_eq_false h;omega)];rfl
 |true=>
  have h:=of_decide_eq_true h
  rw[decide_eq_true (by omega),shr_nat (by omega) (by omega)]
  simp only[cond_true,Bool.true_and]
  have e:((b.toNat.log2:Int)-(a.toNat.log2:Int)).toNat=b.toNat.log2-a.toNat.log2:=by omega
  rw[e]
  apply Bool.eq_iff_iff.2
  simp only[beq_iff_eq]
  omega
theorem okN_pow {h n:Nat} (hk:okN h n=true):2^h≤n*2^(h-n.log2)∧n*2^(h-n.log2)+2^(h-n.log2)≤2^(h+1)∧n.log2≤h:=by
 obtain⟨h1,h2,h3,h4⟩:=okN_iff.1 hk
 have hl:=(okN_log (h:=h) (n:=n) (by omega)).1 h4
 have a:=log2_le (n:=n) (by omega)
 have b:=lt_log2 (n:=n)
 have e1:2^h=2^n.log2*2^(h-n.log2):=by rw[←Nat.pow_add];congr 1;omega
 have e2:2^(h+1)=2^(n.log2+1)*2^(h-n.log2):=by rw[←Nat.pow_add];congr 1;omega
 refine⟨?_, ?_,hl⟩
 ·rw[e1];exact Nat.mul_le_mul_right _ a
 ·rw[e2,←Nat.succ_mul];exact Nat.mul_le_mul_right _ b
theorem within_nat {h n i:Int} (h0:0≤n) (hi0:0≤i) (hk:okN h.toNat n.toNat=true) (hi:i.toNat<2^h.toNat):(leavesI h n).2=0∧within (leavesI h n).1 i=abv n.toNat (leafN h.toNat i.toNat):=by
 have hc:(chkI h n != 0)=false:=by rw[chk_nat h0,hk];rfl
 obtain⟨h1,h2,h3⟩:=chk_zero hc
 have h1:=highB_iff.1 h1
 obtain⟨p1,p2,p3⟩:=okN_pow hk
 have hp:=pow32 (h:=h.toNat) (by omega)
 have hp1:2^(h.toNat+1)=2*2^h.toNat:=by rw[Nat.pow_succ];omega
 unfold leavesI
 rw[hc,dep_nat h2]
 refine⟨rfl, ?_⟩
 simp only[cond_false]
 have ed:h-(n.toNat.log2:Int)=((h.toNat-n.toNat.log2:Nat):Int):=by omega
 rw[ed]
 have hll:=leafN_log2 hi
 have ell:leafN h.toNat i.toNat=2^h.toNat+i.toNat:=rfl
 generalize hD:h.toNat-n.toNat.log2=d at*
 have hd0:=Nat.two_pow_pos d
 have e1:shlI n d=((n.toNat*2^d:Nat):Int):=by
  have:=shl_nat (a:=n.toNat) (k:=d) (by omega) (by omega)
  rw[←this];congr 1;omega
 have e2:shlI 1 h=((2^h.toNat:Nat):Int):=by
  have:=shl_nat (a:=1) (k:=h.toNat) (by omega) (by omega)
  rw[Nat.one_mul]at this
  rw[←this];congr 1;omega
 have e3:shlI 1 d=((2^d:Nat):Int):=by
  have hd:2^d≤2^32:=pow32 (by omega)
  have:=shl_nat (a:=1) (k:=d) (by omega) (by omega)
  rw[Nat.one_mul]at this
  exact this
 have hlow:lowI h n d=((n.toNat*2^d-2^h.toNat:Nat):Int):=by
  unfold lowI
  rw[e1,e2,wrapU (by omega) (by omega)];omega
 have htop:topI h n d=((n.toNat*2^d-2^h.toNat+2^d-1:Nat):Int):=by
  have hd0:=Nat.two_pow_pos d
  unfold topI
  rw[hlow,e3,wrapU (n:=_+_) (by omega) (by omega),wrapU (by omega) (by omega)];omega
 rw[hlow,htop]
 have hd0:=Nat.two_pow_pos d
 unfold within abv
 rw[hll,hD,decide_eq_true p3,Bool.true_and]
 apply Bool.eq_iff_iff.2
 simp only[beq_iff_eq]
 rw[Nat.div_eq_iff hd0,ell]
 constructor
 ·intro hx
  cases hy:decide (((n.toNat*2^d-2^h.toNat:Nat):Int)≤i)with
  |false=>rw[hy]at hx;cases hx
  |true=>
   rw[hy]at hx
   have hx:=of_decide_eq_true hx
   have hy:=of_decide_eq_true hy
   constructor<;>omega
 ·rintro⟨ha,hb⟩
  rw[decide_eq_true (by omega)]
  exact decide_eq_true (by omega)
def leafOk (h i:Nat):Bool:=decide (1≤h)&&decide (h≤32)&&decide (i<2^h)
theorem leafOk_iff {h i:Nat}:leafOk h i=true↔1≤h∧h≤32∧i<2^h:=by simp [leafOk,and_assoc]
theorem leafV_err {h i:Nat}:((leafV h i).2==0)=leafOk h i:=by
 unfold leafV leafOk
 cases decide (1≤h)&&decide (h≤32)with
 |false=>rfl
 |true=>cases decide (i<2^h)<;>rfl
theorem leaf_err {h i:Int} (h0:0≤i) (h1:i.toNat<2^64):((leafI h i).2==0)=leafOk h.toNat i.toNat:=by rw[leaf_nat h0 h1];exact leafV_err
theorem okN_one {h:Nat}:okN h 1=(decide (1≤h)&&decide (h≤32)):=by
 apply Bool.eq_iff_iff.2
 rw[okN_iff]
 simp only[Bool.and_eq_true,decide_eq_true_eq]
 constructor
 ·rintro⟨a,b,_,_⟩;exact⟨a,b⟩
 ·rintro⟨a,b⟩
  have:2^1≤2^(h+1):=Nat.pow_le_pow_right (by decide) (by omega)
  exact⟨a,b,Nat.le_refl 1,by omega⟩
theorem chk_ne {h n:Int} (h0:0≤n):(chkI h n != 0)= !okN h.toNat n.toNat:=by
 rw[chk_nat h0];cases okN h.toNat n.toNat<;>rfl
theorem noLeaf_nat {h i:Int} (h0:0≤i) (h1:i.toNat<2^64):noLeaf h i= !leafOk h.toNat i.toNat:=by
 unfold noLeaf lchk
 rw[leaf_err h0 h1,chk_ne (by decide)]
 show(bif (bif !okN h.toNat 1 then(1:Int)else 0) != 0 then true else !leafOk h.toNat i.toNat)=_
 rw[okN_one]
 unfold leafOk
 cases decide (1≤h.toNat)&&decide (h.toNat≤32)<;>cases decide (i.toNat<2^h.toNat)<;>rfl
theorem subE_nat {h:Int} {s:Int×Int} (h1:IntKind.u64.has s.1) (h2:IntKind.u64.has s.2):subE h s=bif okS h.toNat s.1.toNat s.2.toNat then 0 else 1:=by
 obtain⟨i,j⟩:=s
 obtain⟨a0,a1,a2⟩:=hasU h1
 obtain⟨b0,b1,b2⟩:=hasU h2
 simp only at a0 a1 a2 b0 b1 b2⊢
 unfold subE okS
 simp only
 have e0:(j==0)=(j.toNat==0):=by apply Bool.eq_iff_iff.2;simp;omega
 rw[e0]
 cases hj:j.toNat==0 with
 |true=>
  simp only[cond_true,Bool.true_or,Bool.and_true]
  exact chk_nat a0
 |false=>
  simp only[cond_false,Bool.false_or]
  have hj:j.toNat≠0:=by simpa using hj
  have e1:(aboveI h i j)=bif okN h.toNat i.toNat&&okN h.toNat j.toNat then(aboveB i j,0)else(false,1):=by
   unfold aboveI bothI both
   rw[chk_ne a0,chk_ne b0]
   cases okN h.toNat i.toNat<;>cases okN h.toNat j.toNat<;>rfl
  rw[e1]
  cases ho:okN h.toNat i.toNat with
  |false=>rfl
  |true=>
   cases hp:okN h.toNat j.toNat with
   |false=>rfl
   |true=>
    have hi:=(okN_iff.1 ho).2.2.1
    rw[above_nat (by omega) (by omega) b1]
    have e2:(i==j)=(i.toNat==j.toNat):=by apply Bool.eq_iff_iff.2;simp;omega
    show(bif bif !(abv i.toNat j.toNat)then true else i==j then(1:Int)else 0)=bif abv i.toNat j.toNat&&i.toNat != j.toNat then 0 else 1
    rw[e2]
    unfold bne
    cases abv i.toNat j.toNat<;>cases i.toNat==j.toNat<;>rfl
theorem subE_ne {h:Int} {s:Int×Int} (h1:IntKind.u64.has s.1) (h2:IntKind.u64.has s.2):(subE h s != 0)= !okS h.toNat s.1.toNat s.2.toNat :=by
 rw[subE_nat h1 h2];cases okS h.toNat s.1.toNat s.2.toNat <;>rfl
theorem has_nat {h i:Int} {s:Int×Int} (h1:IntKind.u64.has s.1) (h2:IntKind.u64.has s.2) (hi:IntKind.u64.has i):
 hasI h s i=bif okS h.toNat s.1.toNat s.2.toNat &&leafOk h.toNat i.toNat then(hasN h.toNat s.1.toNat s.2.toNat i.toNat,0)else(false,1):=by
 obtain⟨c0,c1,c2⟩:=hasU hi
 obtain⟨a0,a1,a2⟩:=hasU h1
 obtain⟨b0,b1,b2⟩:=hasU h2
 unfold hasI badH inS bothS
 rw[noLeaf_nat c0 c1,subE_ne h1 h2]
 cases hk:okS h.toNat s.1.toNat s.2.toNat with
 |false=>
  rw[show subE h s=1 by rw[subE_nat h1 h2,hk];rfl];rfl
 |true=>
  obtain⟨k1,k2⟩:=okS_iff.1 hk
  simp only[Bool.not_true,cond_false,Bool.true_and]
  have e0:(s.2==0)=(s.2.toNat ==0):=by apply Bool.eq_iff_iff.2;simp;omega
  cases hl:leafOk h.toNat i.toNat with
  |false=>
   simp only[Bool.not_false,cond_true]
   have: ∀b:Bool,(bif b then true else(1:Int) != 0)=true:=by intro b;cases b<;>rfl
   rw[this];rfl
  |true=>
   have hl:=(leafOk_iff.1 hl).2.2
   obtain⟨w1,w2⟩:=within_nat a0 c0 k1 hl
   have w1':((leavesI h s.1).2==0)=true:=by rw[w1];rfl
   simp only[Bool.not_true,cond_false,cond_true,w1']
   unfold hasN
   cases hj:s.2.toNat ==0 with
   |true=>
    have:(s.2 != 0)=false:=by unfold bne;rw[e0,hj];rfl
    rw[this,e0,hj]
    simp only[cond_false,cond_true,w1,w2,Bool.true_or,Bool.and_true]
    cases abv s.1.toNat (leafN h.toNat i.toNat)<;>rfl
   |false=>
    have:(s.2 != 0)=true:=by unfold bne;rw[e0,hj];rfl
    rw[this,e0,hj]
    have hj:s.2.toNat ≠0:=by simpa using hj
    obtain⟨j1,j2,j3⟩:=k2.resolve_left hj
    obtain⟨x1,x2⟩:=within_nat b0 c0 j1 hl
    simp only[cond_false,cond_true,x1,x2,w2,Bool.false_or]
    cases abv s.1.toNat (leafN h.toNat i.toNat)<;>cases abv s.2.toNat (leafN h.toNat i.toNat)<;>rfl
theorem idxP_spec (p:Int×Int→Bool): ∀(l:List (Int×Int)) (i:Int),0≤i→idxP p l i≥0→i≤idxP p l i∧idxP p l i<i+l.length∧p (l.getD (idxP p l i-i).toNat (0,0))=true∧ ∀j:Nat,(j:Int)<idxP p l i-i→p (l.getD j (0,0))=false:=by
 intro l
 induction l with
 |nil=>intro i _ h;exact absurd h (by show ¬((-1:Int)≥0);decide)
 |cons x l ih=>
  intro i hi h
  simp only[idxP]at h⊢
  cases hx:p x with
  |true=>
   simp only[cond_true]
   refine⟨Int.le_refl i,by simp only[List.length_cons];omega, ?_,fun j hj=>by omega⟩
   rw[show(i-i).toNat=0 by omega];exact hx
  |false=>
   rw[hx]at h
   simp only[cond_false]at h⊢
   obtain⟨h1,h2,h3,h4⟩:=ih (i+1) (by omega) h
   refine⟨by omega,by simp only[List.length_cons];omega, ?_,fun j hj=> ?_⟩
   ·rw[show(idxP p l (i+1)-i).toNat=(idxP p l (i+1)-(i+1)).toNat+1 by omega]
    exact h3
   ·cases j with
    |zero=>exact hx
    |succ j=>exact h4 j (by omega)
theorem idxP_none (p:Int×Int→Bool): ∀(l:List (Int×Int)) (i:Int),0≤i→ ¬idxP p l i≥0→ ∀x∈l,p x=false:=by
 intro l
 induction l with
 |nil=>intro i _ _ x hx;cases hx
 |cons y l ih=>
  intro i hi h x hx
  simp only[idxP]at h
  cases hy:p y with
  |true=>rw[hy]at h;exact absurd hi h
  |false=>
   rw[hy]at h
   rcases List.mem_cons.1 hx with rfl|hx
   ·exact hy
   ·exact ih (i+1) (by omega) h x hx
def badP (i p:Int):Bool:=bif decide (p<0)then true else decide (p≥i)
def idxFrom (f:Int→Bool):List Int→Int→Int
 |[],_=> -1
 |x::xs,i=>bif f x then i else idxFrom f xs (i+1)
def cl (c:AV):Option (Int→Bool):=
 match c with
 | .one (.fn f [.ptrD false (.int .i64) i])=>bif Nat.beq f N121 then some (badP i)else none
 |_=>none
abbrev live101:List (Nat×List (Nat×Dir)):=[(0,[(0,.keep),(1,.keep),(4,.keep),(7,.keep),(8,.keep)])]
theorem idxFrom_drop (p:Int→Bool) (xs:List Int) (i:Nat) (h:i<xs.length):idxFrom p (xs.drop i) i=bif p (xs.getD i 0)then(i:Int)else idxFrom p (xs.drop (i+1)) ((i+1:Nat):Int):=by
 rw[List.drop_eq_getElem_cons h]
 simp [idxFrom,List.getD_eq_getElem?_getD,h]
theorem idxFrom_ge (p:Int→Bool): ∀(xs:List Int) (i:Int),idxFrom p xs i= -1∨i≤idxFrom p xs i:=by
 intro xs
 induction xs with
 |nil=>intro i;exact .inl rfl
 |cons x xs ih=>
  intro i
  simp only[idxFrom]
  cases p x with
  |true=>exact .inr (Int.le_refl i)
  |false=>rcases ih (i+1)with h|h
          ·exact .inl h
          ·exact .inr (by simp only[cond_false];omega)
theorem idx_any (p:Int→Bool): ∀(xs:List Int) (i:Int),0≤i→decide (idxFrom p xs i≥0)=xs.any p:=by
 intro xs
 induction xs with
 |nil=>intro i _;rfl
 |cons x xs ih=>
  intro i hi
  simp only[idxFrom,List.any_cons]
  rcases Bool.eq_false_or_eq_true (p x)with h|h
  ·simp only[h,cond_true,Bool.true_or];exact decide_eq_true hi
  ·simp only[h,cond_false,Bool.false_or];exact ih (i+1) (by omega)
theorem nl_split {w:World} {okA:Nat→Prop} {f:Bool} {t:Ty} {xs:List t.D} {v:Go.Value} (h:AVRel w μ0 (argOK okA) (.one (.sl f t none xs)) v):
 (xs=[]∧AVRel w μ0 (argOK okA) (.one (.sl f t (some true) xs)) v)∨AVRel w μ0 (argOK okA) (.one (.sl f t (some false) xs)) v:=by
 obtain⟨h1,_⟩:=h
 obtain⟨A,c,e,g1,g2,g3⟩:=id h1
 simp only[List.cons.injEq,and_true]at e
 subst e
 rcases g3 with⟨rfl,rfl,rfl⟩|⟨b,o,⟨sp,rfl,_⟩,_⟩
 ·exact .inl ⟨rfl,h1,rfl⟩
 ·exact .inr ⟨h1,_,_,_,rfl⟩
theorem good_nl {P:Program} {f:FuncId} {t:Ty} {xs:List t.D} {r:AV} (h1:xs=[]→Good P f [.one (.sl false t (some true) xs)] r) (h2:Good P f [.one (.sl false t (some false) xs)] r):Good P f [.one (.sl false t none xs)] r:=by
 intro w okA vs hA hl
 cases hl with
 | @cons _ v _ vs' hv ht=>
   rcases nl_split hv with⟨e,hv'⟩|hv'
   ·exact h1 e w okA _ hA (.cons hv' ht)
   ·exact h2 w okA _ hA (.cons hv' ht)
def oddB (s:Int):Bool:=IntKind.i64.wrap (BitVec.ofInt 64 s&&& ~~~(BitVec.ofInt 64 1)).toNat != 0
def idxN (p:Int→Bool):Nat→Nat→Int
 |0,_=> -1
 |m+1,j=>bif p j then(j:Int)else idxN p m (j+1)
theorem findN {ρ:Type} {n:Nat} {ok ans:Int→Bool} {F:Nat→Int→Option ρ} {Kx Kr:Int→Option ρ} (hmax:(n:Int)≤9223372036854775807)
 (step: ∀fuel (i:Int),F (fuel+1) i=bif decide (i<n)then bif ok i then bif ans i then Kr i else F fuel (IntKind.i64.wrap (i+1))else none else Kx i)
 (hall: ∀j:Nat,j<n→ok j=true) {out:ρ} (h:(bif decide (idxN ans n 0<0)then Kx n else Kr (idxN ans n 0))=some out): ∃fuel,F fuel 0=some out:=by
 have key: ∀(m j:Nat),j+m=n→(bif decide (idxN ans m j<0)then Kx n else Kr (idxN ans m j))=some out→ ∃fuel,F fuel j=some out:=by
  intro m
  induction m with
  |zero=>
   intro j hj h
   obtain rfl:j=n:=by omega
   exact⟨1,by rw[step,nlt_dec];exact h⟩
  |succ m ih=>
   intro j hj h
   have hlt:j<n:=by omega
   cases hp:ans j with
   |true=>
    have e:idxN ans (m+1) j=j:=by rw[idxN,hp];rfl
    rw[e,decide_eq_false (show ¬((j:Nat):Int)<0 by omega)]at h
    exact⟨1,by rw[step,lt_dec hlt,hall j hlt,hp];exact h⟩
   |false=>
    have e:idxN ans (m+1) j=idxN ans m (j+1):=by rw[idxN,hp];rfl
    rw[e]at h
    obtain⟨fuel,hf⟩:=ih (j+1) (by omega) h
    exact⟨fuel+1,by rw[step,lt_dec hlt,hall j hlt,hp,wrap64 (n:=(j:Int)+1) (by omega) (by omega)];exact hf⟩
 exact key n 0 (by omega) h
theorem idxN_lt (p:Int→Bool): ∀(m j:Nat),decide (idxN p m j<0)=true↔ ∀k:Nat,j≤k→k<j+m→p k=false:=by
 intro m
 induction m with
 |zero=>intro j;exact⟨fun _ k h1 h2=>by omega,fun _=>rfl⟩
 |succ m ih=>
  intro j
  cases hp:p j with
  |true=>
   have e:idxN p (m+1) j=j:=by rw[idxN,hp];rfl
   rw[e,decide_eq_false (show ¬((j:Nat):Int)<0 by omega)]
   exact⟨fun h=>(by cases h),fun h=>by rw[h j (Nat.le_refl _) (by omega)]at hp;cases hp⟩
  |false=>
   have e:idxN p (m+1) j=idxN p m (j+1):=by rw[idxN,hp];rfl
   rw[e,ih]
   refine⟨fun h k h1 h2=> ?_,fun h k h1 h2=>h k (by omega) (by omega)⟩
   rcases Nat.eq_or_lt_of_le h1 with rfl|h3
   ·exact hp
   ·exact h k h3 (by omega)
def anyN (p:Int→Bool) (n:Nat):Bool:= !decide (idxN p n 0<0)
theorem anyN_iff {p:Int→Bool} {n:Nat}:anyN p n=true↔ ∃k:Nat,k<n∧p k=true:=by
 unfold anyN
 constructor
 ·intro h
  rcases Classical.em (∃k:Nat,k<n∧p k=true)with h9|h9
  ·exact h9
  ·have:decide (idxN p n 0<0)=true:=(idxN_lt p n 0).2 fun k _ hk=>by
    cases hp:p k with
    |true=>exact absurd ⟨k,by omega,hp⟩ h9
    |false=>rfl
   rw[this]at h;cases h
 ·rintro⟨k,h1,h2⟩
  cases hd:decide (idxN p n 0<0)with
  |true=>have:=(idxN_lt p n 0).1 hd k (Nat.zero_le _) (by omega);rw[this]at h2;cases h2
  |false=>rfl
theorem anyN_not {p:Int→Bool} {n:Nat}:decide (idxN p n 0<0)= !anyN p n:=by unfold anyN;rw[Bool.not_not]
def Γ416:Orc:=orc [(N366,s366),(N330,s330)]
def ru2 (a e:Int):AV:= .tup [(false,[.int .u64 a]),(false,[.int .i64 e])]
def childI (h n i:Int):Int×Int:=bif bif chkI h n != 0 then true else oddB i then(0,1)else bif depI n==h then(0,4)else(orU (shlI n 1) (IntKind.u64.wrap i),0)
theorem r416 (h n i:Int):run Γ416 noL [] F416 (encA [.v I,.v U,.v I] (h,n,i)) []=
 bif bif chkI h n != 0 then true else oddB i then some (ru2 0 1)else bif depI n==h then some (ru2 0 4)else some (ru2 (orU (shlI n 1) (IntKind.u64.wrap i)) 0):=by kernel_rfl
def s416:Sp:= .fn [.v I,.v U,.v I] fun x=>(true,ru2 (childI x.1 x.2.1 x.2.2).1 (childI x.1 x.2.1 x.2.2).2)
theorem g416:GoodS Tryz.prog N416 s416:=by
 refine good (.cons g366 (.cons g330 (.nil _))) H416 rfl (by kernel_rfl) noL [] (noLoops (by kernel_rfl)) [.v I,.v U,.v I] (by decide) [] _ fun x r hw e=> ?_
 obtain⟨h,n,i⟩:=x
 cases e
 refine(r416 h n i).trans ?_
 show _=some (ru2 (childI h n i).1 (childI h n i).2)
 unfold childI
 cases bif chkI h n != 0 then true else oddB i<;>cases depI n==h<;>rfl
theorem r421 (a:Int):run (orc []) noL [] F421 [.one (.int .u64 a)] []=some (.one (.bool (a != a))):=by kernel_rfl
def s421:Sp:= .fn [.v U] fun x=>(true,.one (.bool false))
theorem g421:GoodS Tryz.prog N421 s421:=by
 refine good (OrcOk.nil _) H421 rfl (by kernel_rfl) noL [] (noLoops (by kernel_rfl)) [.v U] (by decide) [] _ fun x r hw e=> ?_
 cases e
 refine(r421 x).trans ?_
 rw[show(x != x)=false from bne_self_eq_false x]
def Γ422:Orc:=orc [(N421,s421)]
theorem r422 (a b:Int):run Γ422 noL [] F422 [.one (.int .u64 a),.one (.int .u64 b)] []=some (.one (.bool (decide (a<b)))):=by kernel_rfl
def s422:Sp:= .fn [.v U,.v U] fun x=>(true,.one (.bool (decide ((x.1:Int)<x.2))))
theorem g422:GoodS Tryz.prog N422 s422:=by
 refine good (.cons g421 (.nil _)) H422 rfl (by kernel_rfl) noL [] (noLoops (by kernel_rfl)) [.v U,.v U] (by decide) [] _ fun x r hw e=> ?_
 obtain⟨a,b⟩:=x
 cases e
 exact r422 a b
def Γ402u:Orc:=orc [(N422,s422),(N423,s423)]
abbrev live402u:List (Nat×Dir):=[(0,.keep),(1,.keep),(6,.keep),(7,.keep),(8,.keep)]
def vs402u (xs:List Int) (t n i j:Int):List AV:=[.one (.sl false U none xs),.one (.int .u64 t),.one (.int .i64 n),.one (.int .i64 i),.one (.int .i64 j)]
noncomputable abbrev lo402u (Λ:Lam AV) (K:AE→List AV→Option AV) (fuel:Nat) (vs:List AV):Option AV:=loopN (aexec tb Γ402u Λ ⟨54,0,[(0,live402u)]⟩ (loop1 F402).2 0) 54 0 live402u K fuel vs
def bsAu (l:List Int) (i:Int):Int:=l.getD i.toNat (Ty.int IntKind.u64).dflt
def midWu (i j:Int):Int:=IntKind.i64.wrap ((IntKind.u64.wrap (IntKind.i64.wrap (i+j))).fdiv (2^min (Int.toNat 1) IntKind.u64.bits))
theorem step402u (xs:List Int) (t n i j:Int) (Λ:Lam AV) (K:AE→List AV→Option AV) (fuel:Nat):lo402u Λ K (fuel+1) (vs402u xs t n i j)=
 bif decide (i<j)then bif inB (midWu i j) xs.length then
  bif decide (bsAu xs (midWu i j)<t)then lo402u Λ K fuel (vs402u xs t n (IntKind.i64.wrap (midWu i j+1)) j)else lo402u Λ K fuel (vs402u xs t n i (midWu i j))
 else none else K (.exit 0) (vs402u xs t n i j):=by kernel_rfl
theorem midW_equ {i j:Nat} (h:i+j≤9223372036854775807):midWu i j=(((i+j)/2:Nat):Int):=by
 unfold midWu
 rw[wrap64 (n:=(i:Int)+j) (by omega) (by omega),wrapU (by omega) (by omega)]
 have e:(2:Int)^min (Int.toNat 1) IntKind.u64.bits=2:=by decide
 rw[e]
 have e2:((i:Int)+j).fdiv 2=(((i+j)/2:Nat):Int):=by
  rw[Int.fdiv_eq_ediv_of_nonneg _ (by omega)];omega
 rw[e2]
 exact wrap64 (by omega) (by omega)
def bsNu (xs:List Int) (t:Int):Nat→Nat→Nat→Nat
 |0,i,_=>i
 |f+1,i,j=>bif decide (i<j)then bif decide (bsAu xs ((i+j)/2:Nat)<t)then bsNu xs t f ((i+j)/2+1) j else bsNu xs t f i ((i+j)/2)else i
def bsPu (xs:List Int) (t:Int):Nat:=bsNu xs t (xs.length+1) 0 xs.length
def Λ402u:Lam AV:=fun cur vs K=>
 match cur,vs with
 |0,[.one (.sl false (.int .u64) none xs),.one (.int .u64 t),.one (.int .i64 n),.one (.int .i64 0),.one (.int .i64 j)]=>
  bif decide (n=xs.length)&&(decide (j=xs.length)&&decide ((xs.length:Int)≤4611686018427387903))then K (.exit 0) (vs402u xs t n (bsPu xs t) (bsPu xs t))else none
 |_,_=>none
theorem loop402u:LoopP tb Γ402u Λ402u ⟨54,0,[(0,live402u)]⟩ (loop1 F402):=by
 intro vs K out h
 have hcur:(loop1 F402).1=0:=by kernel_rfl
 rw[hcur]at h⊢
 unfold Λ402u at h
 split at h
 ·rename_i xs t n j _
  cases hc:(decide (n=xs.length)&&(decide (j=xs.length)&&decide ((xs.length:Int)≤4611686018427387903)))with
  |false=>rw[hc]at h;cases h
  |true=>
   rw[hc]at h
   simp only[cond_true]at h
   simp only[Bool.and_eq_true,decide_eq_true_eq]at hc
   obtain⟨rfl,rfl,hmax⟩:=hc
   have key: ∀(f i j:Nat),i≤j→j≤xs.length→j-i<f→K (.exit 0) (vs402u xs t xs.length (bsNu xs t f i j) (bsNu xs t f i j))=some out→ ∃fuel,lo402u Λ402u K fuel (vs402u xs t xs.length i j)=some out:=by
    intro f
    induction f with
    |zero=>intro i j _ _ h;omega
    |succ f ih=>
     intro i j hij hj hf h
     rw[bsNu]at h
     rcases Nat.lt_or_ge i j with hlt|hge
     ·rw[decide_eq_true hlt]at h
      have hm:inB (((i+j)/2:Nat):Int) xs.length=true:=inB_lt (by omega)
      cases hx:decide (bsAu xs ((i+j)/2:Nat)<t)with
      |true=>
       rw[hx]at h
       obtain⟨fuel,hf⟩:=ih ((i+j)/2+1) j (by omega) hj (by omega) h
       refine⟨fuel+1, ?_⟩
       rw[step402u,lt_dec hlt,midW_equ (by omega),hm,hx,wrap64 (n:=(((i+j)/2:Nat):Int)+1) (by omega) (by omega)]
       exact hf
      |false=>
       rw[hx]at h
       obtain⟨fuel,hf⟩:=ih i ((i+j)/2) (by omega) (by omega) (by omega) h
       refine⟨fuel+1, ?_⟩
       rw[step402u,lt_dec hlt,midW_equ (by omega),hm,hx]
       exact hf
     ·obtain rfl:i=j:=by omega
      rw[decide_eq_false (Nat.lt_irrefl _)]at h
      exact⟨1,by rw[step402u,nlt_dec];exact h⟩
   exact key (xs.length+1) 0 xs.length (Nat.zero_le _) (Nat.le_refl _) (by omega) h
 ·cases h
def foundBu (xs:List Int) (t:Int):Bool:=bif decide ((bsPu xs t:Int)<xs.length)then(bif bsAu xs (bsPu xs t)==t then true else false)else false
def bsRu (xs:List Int) (t:Int):AV:= .tup [(false,[.int .i64 (bsPu xs t)]),(false,[.bool (foundBu xs t)])]
theorem r402u (xs:List Int) (t:Int):run Γ402u Λ402u [(0,live402u)] F402 [.one (.sl false U none xs),.one (.int .u64 t)] []=
 bif decide ((xs.length:Int)=xs.length)&&(decide ((xs.length:Int)=xs.length)&&decide ((xs.length:Int)≤4611686018427387903))then
  bif inB (bsPu xs t) xs.length|| !boolBeq (decide ((bsPu xs t:Int)<xs.length)) true then
   bif inB (bsPu xs t) xs.length|| !(boolBeq (decide ((bsPu xs t:Int)<xs.length)) true&&boolBeq (bsAu xs (bsPu xs t)==t) false)then some (bsRu xs t)else none
  else none
 else none:=by kernel_rfl
def s402u:Sp:= .fn [.v (.sl U),.v U] fun x=>(decide (x.1.length ≤1000000),bsRu x.1 x.2)
theorem g402u:GoodS Tryz.prog N402 s402u:=by
 refine good (.cons g422 (.cons g423 (.nil _))) H402 rfl (by kernel_rfl) Λ402u [(0,live402u)] (oneLoop (p0:=loop1 F402) (by kernel_rfl) loop402u) [.v (.sl U),.v U] (by decide) [] _ fun x r hw h=> ?_
 obtain⟨xs,t⟩:=x
 simp only[Prod.mk.injEq,decide_eq_true_eq]at h
 obtain⟨h1,rfl⟩:=h
 refine(r402u xs t).trans ?_
 rw[decide_eq_true rfl,decide_eq_true (show(xs.length:Int)≤4611686018427387903 by omega)]
 have key:(inB (bsPu xs t) xs.length|| !boolBeq (decide ((bsPu xs t:Int)<xs.length)) true)=true∧(inB (bsPu xs t) xs.length|| !(boolBeq (decide ((bsPu xs t:Int)<xs.length)) true&&boolBeq (bsAu xs (bsPu xs t)==t) false))=true:=by
  rcases Nat.lt_or_ge (bsPu xs t) xs.length with h|h
  ·rw[inB_lt h];exact⟨rfl,rfl⟩
  ·rw[decide_eq_false (show ¬(bsPu xs t:Int)<xs.length by omega)]
   exact⟨by simp [boolBeq],by simp [boolBeq]⟩
 rw[key.1,key.2];rfl
theorem bsN_specu {xs:List Int} {t:Int} (hs:xs.Pairwise (· < ·)): ∀(f i j:Nat),i≤j→j≤xs.length→j-i<f→(∀k,k<i→bsAu xs k<t)→(∀k,j≤k→k<xs.length→ ¬bsAu xs k<t)→
 bsNu xs t f i j≤xs.length∧(∀k,k<bsNu xs t f i j→bsAu xs k<t)∧(∀k,bsNu xs t f i j≤k→k<xs.length→ ¬bsAu xs k<t):=by
 have hmono: ∀a b,a<b→b<xs.length→bsAu xs a<bsAu xs b:=fun a b hab hb=>by
  have h:=List.pairwise_iff_getElem.1 hs a b (by omega) hb hab
  unfold bsAu;simpa [show a<xs.length by omega,hb]using h
 intro f
 induction f with
 |zero=>intro i j _ _ h;omega
 |succ f ih=>
  intro i j hij hj hf h1 h2
  rw[bsNu]
  rcases Nat.lt_or_ge i j with hlt|hge
  ·rw[decide_eq_true hlt]
   cases hx:decide (bsAu xs ((i+j)/2:Nat)<t)with
   |true=>
    have hx:=of_decide_eq_true hx
    refine ih _ _ (by omega) hj (by omega) (fun k hk=> ?_) h2
    rcases Nat.lt_or_ge k ((i+j)/2)with h9|h9
    ·exact Int.lt_trans (hmono k _ h9 (by omega)) hx
    ·obtain rfl:k=(i+j)/2:=by omega
     exact hx
   |false=>
    have hx:=of_decide_eq_false hx
    refine ih _ _ (by omega) (by omega) (by omega) h1 fun k hk hkl=> ?_
    rcases Nat.lt_or_ge ((i+j)/2) k with h9|h9
    ·have:=hmono _ k h9 hkl
     omega
    ·obtain rfl:k=(i+j)/2:=by omega
     exact hx
  ·obtain rfl:i=j:=by omega
   rw[decide_eq_false (Nat.lt_irrefl _)]
   exact⟨hj,h1,h2⟩
theorem found_iffu {xs:List Int} {t:Int} (hs:xs.Pairwise (· < ·)):foundBu xs t=true↔t∈xs:=by
 obtain⟨h0,h1,h2⟩:=bsN_specu (t:=t) hs (xs.length+1) 0 xs.length (Nat.zero_le _) (Nat.le_refl _) (by omega) (fun k hk=>by omega) (fun k hk hkl=>by omega)
 change bsPu xs t≤_ at h0
 change ∀k,k<bsPu xs t→_ at h1
 change ∀k,bsPu xs t≤k→_ at h2
 have ha: ∀k (h:k<xs.length),bsAu xs k=xs[k]:=fun k h=>by unfold bsAu;simp [h]
 unfold foundBu
 constructor
 ·intro h
  rcases Nat.lt_or_ge (bsPu xs t) xs.length with hl|hl
  ·rw[decide_eq_true (show(bsPu xs t:Int)<xs.length by omega)]at h
   cases he:bsAu xs (bsPu xs t)==t with
   |false=>rw[he]at h;cases h
   |true=>
    have he:=eq_of_beq he
    rw[←he,ha _ hl];exact List.getElem_mem hl
  ·rw[decide_eq_false (show ¬(bsPu xs t:Int)<xs.length by omega)]at h;cases h
 ·intro h
  obtain⟨k,hk,rfl⟩:=List.getElem_of_mem h
  have e:bsPu xs xs[k]=k:=by
   rcases Nat.lt_trichotomy (bsPu xs xs[k]) k with h9|h9|h9
   ·have hm:=List.pairwise_iff_getElem.1 hs _ k (by omega) hk h9
    have:=h2 _ (Nat.le_refl _) (show bsPu xs xs[k]<xs.length by omega)
    rw[ha _ (show bsPu xs xs[k]<xs.length by omega)]at this
    exact absurd hm this
   ·exact h9
   ·have:=h1 k h9
    rw[ha k hk]at this;exact absurd this (Int.lt_irrefl _)
  rw[e,decide_eq_true (show(k:Int)<xs.length by omega),ha k hk]
  simp
def lbad (a:Int) (l l2:List Int) (i:Int):Bool:=bif !((leafI a (bsAu l2 i)).2==0)then true else bif decide (i>0)then decide (bsAu l (IntKind.i64.wrap (i-1))≥bsAu l2 i)else false
def lgd (a:Int) (l l2:List Int) (i:Int):Bool:=inB (IntKind.i64.wrap (i-1)) l.length|| !(boolBeq (!((leafI a (bsAu l2 i)).2==0)) false&&boolBeq (decide (i>0)) true)
theorem lgd_ok {a:Int} {l l2:List Int} {j:Nat} (hj:j<l.length) (hm:(l.length:Int)≤9223372036854775807):lgd a l l2 j=true:=by
 unfold lgd
 rcases Nat.eq_zero_or_pos j with rfl|h0
 ·simp [boolBeq]
 ·rw[wrap64 (n:=(j:Int)-1) (by omega) (by omega),show((j:Int)-1)=((j-1:Nat):Int) by omega,inB_lt (show j-1<l.length by omega)];rfl
abbrev live400L:List (Nat×Dir):=[(0,.keep),(1,.keep),(4,.keep),(15,.keep),(16,.keep),(17,.keep)]
def vs400L (a:Int) (l:List Int) (e:Int) (l2:List Int) (n i:Int):List AV:=[.one (.int .i64 a),.one (.sl false U none l),.one (.int .i64 e),.one (.sl false U none l2),.one (.int .i64 n),.one (.int .i64 i)]
noncomputable abbrev lo400L (Λ:Lam AV) (K:AE→List AV→Option AV) (fuel:Nat) (vs:List AV):Option AV:=loopN (aexec tb Γ400 Λ ⟨40,0,[(0,live400L)]⟩ (loop1 F400).2 0) 40 0 live400L K fuel vs
theorem step400L (a:Int) (l:List Int) (e:Int) (l2:List Int) (n i:Int) (Λ:Lam AV) (K:AE→List AV→Option AV) (fuel:Nat):lo400L Λ K (fuel+1) (vs400L a l e l2 n i)=
 bif decide (i<n)then bif inB i l2.length then bif lgd a l l2 i then bif lbad a l l2 i then K .ret (vs400L a l 1 l2 n i)else lo400L Λ K fuel (vs400L a l e l2 n (IntKind.i64.wrap (i+1)))else none else none else K (.exit 0) (vs400L a l e l2 n i):=by kernel_rfl
noncomputable def Λ400L:Lam AV:=fun cur vs K=>
 match cur,vs with
 |0,[.one (.int .i64 a),.one (.sl false (.int .u64) none l),.one (.int .i64 e),.one (.sl false (.int .u64) none l2),.one (.int .i64 n),.one (.int .i64 0)]=>
  bif decide (n=l2.length)&&(decide (n≤9223372036854775807)&&decide (l.length=l2.length))then
   (bif decide (idxN (fun i=>lbad a l l2 i) (l2.length) 0<0)then K (.exit 0) (vs400L a l e l2 n n)else K .ret (vs400L a l 1 l2 n (idxN (fun i=>lbad a l l2 i) (l2.length) 0)))
  else none
 |_,_=>none
theorem loop400L:LoopP tb Γ400 Λ400L ⟨40,0,[(0,live400L)]⟩ (loop1 F400):=by
 intro vs K out h
 have hcur:(loop1 F400).1=0:=by kernel_rfl
 rw[hcur]at h⊢
 unfold Λ400L at h
 split at h
 ·rename_i a l e l2 n _
  cases hc:(decide (n=l2.length)&&(decide (n≤9223372036854775807)&&decide (l.length=l2.length)))with
  |false=>rw[hc]at h;cases h
  |true=>
   rw[hc]at h
   simp only[cond_true]at h
   rw[Bool.and_eq_true,Bool.and_eq_true]at hc
   obtain⟨h1,h2,hall⟩:=hc
   have h1:=of_decide_eq_true h1
   have hmax:=of_decide_eq_true h2
   subst h1
   refine findN (ok:=fun i=>inB i l2.length&&lgd a l l2 i) (ans:=fun i=>lbad a l l2 i) (F:=fun fuel i=>lo400L Λ400L K fuel (vs400L a l e l2 (l2.length) i)) (Kx:=fun i=>K (.exit 0) (vs400L a l e l2 (l2.length) i)) (Kr:=fun i=>K .ret (vs400L a l 1 l2 (l2.length) i)) hmax
    (fun fuel i=>(step400L a l e l2 (l2.length) i Λ400L K fuel).trans ?_) (fun j hj=> ?_) h
   ·cases inB i l2.length<;>rfl
   ·have hall:=of_decide_eq_true hall
    show(inB ((j:Nat):Int) l2.length&&lgd a l l2 j)=true
    rw[inB_lt hj,lgd_ok (by omega) (by omega)];rfl
 ·cases h
def lbadA (a:Int) (l:List Int):Bool:=anyN (lbad a l l) l.length
theorem r400L (a:Int) (l:List Int):run Γ400 Λ400L [(0,live400L)] F400 [.one (.int .i64 a),.one (.sl false U none l)] []=
 bif bif chkI a 1 != 0 then true else decide ((l.length:Int)>1024)then some (.one (.int .i64 1))else
 bif decide ((l.length:Int)=l.length)&&(decide ((l.length:Int)≤9223372036854775807)&&decide (l.length=l.length))then
  (bif decide (idxN (fun i=>lbad a l l i) l.length 0<0)then some (.one (.int .i64 0))else some (.one (.int .i64 1)))else none:=by kernel_rfl
def lokB (a:Int) (l:List Int):Bool:= !(bif (bif chkI a 1 != 0 then true else decide ((l.length:Int)>1024))then true else lbadA a l)
def lchkI (a:Int) (l:List Int):Int:=bif lokB a l then 0 else 1
def s400L:Sp:= .fn [.v I,.v (.sl U)] fun x=>(true,.one (.int .i64 (lchkI x.1 x.2)))
theorem g400L:GoodS Tryz.prog N400 s400L:=by
 refine good (.cons g366 (.cons g401 (.nil _))) H400 rfl (by kernel_rfl) Λ400L [(0,live400L)] (oneLoop (p0:=loop1 F400) (by kernel_rfl) loop400L) [.v I,.v (.sl U)] (by decide) [] _ fun x r hw e=> ?_
 obtain⟨a,l⟩:=x
 cases e
 refine(r400L a l).trans ?_
 unfold lchkI lokB
 cases hc:(bif chkI a 1 != 0 then true else decide ((l.length:Int)>1024))with
 |true=>rfl
 |false=>
  have hl:l.length≤1024:=by
   cases h1:chkI a 1 != 0 with
   |true=>rw[h1]at hc;cases hc
   |false=>rw[h1]at hc;have:=of_decide_eq_false hc;omega
  simp only[cond_false,decide_true,Bool.true_and,decide_eq_true (show(l.length:Int)≤9223372036854775807 by omega),cond_true,anyN_not,lbadA,Bool.not_not]
  cases anyN (fun i=>lbad a l l i) l.length<;>rfl
theorem lok_len {a:Int} {l:List Int} (h:lokB a l=true):l.length≤1024∧(chkI a 1 != 0)=false∧lbadA a l=false:=by
 unfold lokB at h
 cases h1:chkI a 1 != 0 with
 |true=>rw[h1]at h;cases h
 |false=>
  rw[h1]at h
  simp only[cond_false]at h
  cases h2:decide ((l.length:Int)>1024)with
  |true=>rw[h2]at h;cases h
  |false=>
   rw[h2]at h
   have h2:=of_decide_eq_false h2
   cases h3:lbadA a l with
   |true=>rw[h3]at h;cases h
   |false=>exact⟨by omega,rfl,rfl⟩
theorem r428n (xs:List Int):run (orc []) noL [] F428 [.one (.sl false U (some true) xs)] [.arr U]=some (.arr true U []):=by kernel_rfl
theorem r428 (xs:List Int):run (orc []) noL [] F428 [.one (.sl false U (some false) xs)] [.arr U]=
 bif decide ((([]:List Int).length+xs.length)*8≤140737488355328)then some (.arr true U ([]++xs))else none:=by kernel_rfl
def s428:Sp:= .fn [.v (.sl U)] fun xs=>(decide (xs.length≤1000000),.arr true U xs)
theorem ks428 (ws:List WK) (args:List AV) (hl:args.length≤F428.ntmps) {r:AV} (h:run (orc []) noL [] F428 args ws=some r):Good Tryz.prog N428 args r:=
 good_of mixed tbOk (.nil _) H428 (bd rfl) rfl rfl args hl ⟨F428.ntmps,0,[]⟩ rfl noL (noLoops (by kernel_rfl)) (kretW_spec ws) h
theorem g428:GoodS Tryz.prog N428 s428:=by
 refine .fn (callable_of H428 (bd rfl) (by kernel_rfl)) fun xs r hw h=> ?_
 have hs:xs.length≤1000000:=of_decide_eq_true (congrArg Prod.fst h)
 obtain rfl:AV.arr true U xs=r:=congrArg Prod.snd h
 refine good_nl (fun e=> ?_) ?_
 ·subst e
  exact ks428 [.arr U] _ (by show 1≤8;omega) (r428n [])
 ·refine ks428 [.arr U] _ (by show 1≤8;omega) ((r428 xs).trans ?_)
  rw[decide_eq_true (by simp only[List.length_nil,Nat.zero_add];omega)]
  simp only[cond_true,List.nil_append]
theorem lchk_ok {a:Int} {l:List Int} (h:(lchkI a l != 0)=false):lokB a l=true:=by
 unfold lchkI at h
 cases h1:lokB a l with
 |true=>rfl
 |false=>rw[h1]at h;cases h
theorem lok_at {a:Int} {l:List Int} (h:lokB a l=true) (k:Nat) (hk:k<l.length):((leafI a l[k]).2==0)=true∧(∀(h0:0<k),l[k-1]'(by omega)<l[k]):=by
 obtain⟨h1,h2,h3⟩:=lok_len h
 have h4:lbad a l l k=false:=by
  cases hb:lbad a l l k with
  |false=>rfl
  |true=>have:=anyN_iff.2 ⟨k,hk,hb⟩;unfold lbadA at h3;rw[this]at h3;cases h3
 unfold lbad at h4
 have e1:bsAu l (k:Int)=l[k]:=by unfold bsAu;simp [hk]
 rw[e1]at h4
 cases h5:(leafI a l[k]).2==0 with
 |false=>rw[h5]at h4;cases h4
 |true=>
  rw[h5]at h4
  refine⟨rfl,fun h0=> ?_⟩
  have e2:bsAu l (IntKind.i64.wrap ((k:Int)-1))=l[k-1]'(by omega):=by
   rw[wrap64 (n:=(k:Int)-1) (by omega) (by omega),show((k:Int)-1)=((k-1:Nat):Int) by omega]
   unfold bsAu;simp [show k-1<l.length by omega]
  rw[decide_eq_true (show(k:Int)>0 by omega),e2]at h4
  have h4:=of_decide_eq_false h4
  exact Int.not_le.1 h4
theorem lok_sorted {a:Int} {l:List Int} (h:lokB a l=true):l.Pairwise (· < ·):=by
 refine List.pairwise_iff_getElem.2 fun i j hi hj hij=> ?_
 have key: ∀(d i:Nat) (hi:i+(d+1)<l.length),l[i]'(by omega)<l[i+(d+1)]:=by
  intro d
  induction d with
  |zero=>intro i hi;exact(lok_at h (i+1) hi).2 (by omega)
  |succ d ih=>
   intro i hi
   exact Int.lt_trans (ih i (by omega)) ((lok_at h (i+(d+1+1)) hi).2 (by omega))
 have:=key (j-i-1) i (by omega)
 simpa [show i+(j-i-1+1)=j by omega]using this
theorem lok_leaf {a:Int} {l:List Int} (h:lokB a l=true): ∀x∈l,((leafI a x).2==0)=true:=by
 intro x hx
 obtain⟨k,hk,rfl⟩:=List.getElem_of_mem hx
 exact(lok_at h k hk).1
theorem bsPu_spec {xs:List Int} {t:Int} (hs:xs.Pairwise (· < ·)):bsPu xs t≤xs.length∧(∀k (hk:k<xs.length),k<bsPu xs t→xs[k]<t)∧(∀k (hk:k<xs.length),bsPu xs t≤k→t≤xs[k]):=by
 obtain⟨h0,h1,h2⟩:=bsN_specu (t:=t) hs (xs.length+1) 0 xs.length (Nat.zero_le _) (Nat.le_refl _) (by omega) (fun k hk=>by omega) (fun k hk hkl=>by omega)
 change bsPu xs t≤_ at h0
 change ∀k,k<bsPu xs t→_ at h1
 change ∀k,bsPu xs t≤k→_ at h2
 have ha: ∀k (h:k<xs.length),bsAu xs k=xs[k]:=fun k h=>by unfold bsAu;simp [h]
 exact⟨h0,fun k hk h=>by rw[←ha k hk];exact h1 k h,fun k hk h=>by rw[←ha k hk];exact Int.not_lt.1 (h2 k h hk)⟩
theorem cut_filter {xs:List Int} {lo hi:Int} (hs:xs.Pairwise (· < ·)): ∀ {p q:Nat},(∀k (hk:k<xs.length),k<p→xs[k]<lo)→(∀k (hk:k<xs.length),p≤k→lo≤xs[k])→
 (∀k (hk:k<xs.length),k<q→xs[k]≤hi)→(∀k (hk:k<xs.length),q≤k→hi<xs[k])→(xs.take q).drop p=xs.filter fun x=>decide (lo≤x)&&decide (x≤hi):=by
 induction xs with
 |nil=>intro p q _ _ _ _;simp
 |cons x xs ih=>
  intro p q h1 h2 h3 h4
  have hs':=(List.pairwise_cons.1 hs)
  have e1: ∀p':Nat,(∀k (hk:k<xs.length),k<p'→xs[k]<lo)=(∀k (hk:k<xs.length),k+1<p'+1→(x::xs)[k+1]'(by simp;omega)<lo):=fun p'=>by simp
  cases q with
  |zero=>
   rw[List.take_zero,List.drop_nil]
   have:(x::xs).filter (fun x=>decide (lo≤x)&&decide (x≤hi))=[]:=by
    rw[List.filter_eq_nil_iff]
    intro y hy
    obtain⟨k,hk,rfl⟩:=List.getElem_of_mem hy
    have:=h4 k hk (by omega)
    simp only[Bool.and_eq_true,decide_eq_true_eq];omega
   rw[this]
  |succ q=>
   have hx3:x≤hi:=h3 0 (by simp) (by omega)
   have t3: ∀k (hk:k<xs.length),k<q→xs[k]≤hi:=fun k hk h=>h3 (k+1) (by simp;omega) (by omega)
   have t4: ∀k (hk:k<xs.length),q≤k→hi<xs[k]:=fun k hk h=>h4 (k+1) (by simp;omega) (by omega)
   cases p with
   |zero=>
    have hx1:lo≤x:=h2 0 (by simp) (by omega)
    have:=ih hs'.2 (p:=0) (q:=q) (fun k hk h=>by omega) (fun k hk h=>h2 (k+1) (by simp;omega) (by omega)) t3 t4
    rw[List.filter_cons,if_pos (by simp only[Bool.and_eq_true,decide_eq_true_eq];exact⟨hx1,hx3⟩),←this];rfl
   |succ p=>
    have hx1:x<lo:=h1 0 (by simp) (by omega)
    have:=ih hs'.2 (p:=p) (q:=q) (fun k hk h=>h1 (k+1) (by simp;omega) (by omega)) (fun k hk h=>h2 (k+1) (by simp;omega) (by omega)) t3 t4
    rw[List.filter_cons,if_neg (by simp only[Bool.and_eq_true,decide_eq_true_eq];omega),←this];rfl
def Γ414:Orc:=orc [(N368,s368),(N400,s400L),(N402,s402u),(N428,s428)]
def belowB (a:Int) (l:List Int) (n:Int):Bool:=bif (leavesI a n).2 != 0 then true else lchkI a l != 0
def rlu (l:List Int) (e:Int):AV:= .tup [(false,[.sl true U none l]),(false,[.int .i64 e])]
def belP (a:Int) (l:List Int) (n:Int):Int:=bsPu l (leavesI a n).1.1
def belQ (a:Int) (l:List Int) (n:Int):Int:=bsPu l (IntKind.u64.wrap ((leavesI a n).1.2 +1))
theorem r414 (a:Int) (l:List Int) (n:Int):run Γ414 noL [] F414 [.one (.int .i64 a),.one (.sl false U none l),.one (.int .u64 n)] [.sl true U,.id]=
 bif belowB a l n then some (rlu [] 1)else bif decide (l.length≤1000000)then bif decide (l.length≤1000000)then
  bif decide (0≤belP a l n)&&decide (belP a l n≤belQ a l n)&&decide (belQ a l n≤(l.length:Int))then
   bif decide (((l.take (belQ a l n).toNat).drop (belP a l n).toNat).length≤1000000)then some (rlu ((l.take (belQ a l n).toNat).drop (belP a l n).toNat) 0)else none
  else none else none else none:=by kernel_rfl
def belowL (a:Int) (l:List Int) (n:Int):List Int:=l.filter (within (leavesI a n).1)
theorem leaves_nat {h n:Int} (h0:0≤n) (hk:okN h.toNat n.toNat=true):leavesI h n=
 ((((n.toNat*2^(h.toNat-n.toNat.log2)-2^h.toNat:Nat):Int),((n.toNat*2^(h.toNat-n.toNat.log2)-2^h.toNat+2^(h.toNat-n.toNat.log2)-1:Nat):Int)),0):=by
 have hc:(chkI h n != 0)=false:=by rw[chk_nat h0,hk];rfl
 obtain⟨h1,h2,h3⟩:=chk_zero hc
 have h1:=highB_iff.1 h1
 obtain⟨p1,p2,p3⟩:=okN_pow hk
 have hp:=pow32 (h:=h.toNat) (by omega)
 have hp1:2^(h.toNat+1)=2*2^h.toNat:=by rw[Nat.pow_succ];omega
 unfold leavesI
 rw[hc,dep_nat h2]
 simp only[cond_false]
 have ed:h-(n.toNat.log2:Int)=((h.toNat-n.toNat.log2:Nat):Int):=by omega
 rw[ed]
 generalize hD:h.toNat-n.toNat.log2=d at*
 have hd0:=Nat.two_pow_pos d
 have e1:shlI n d=((n.toNat*2^d:Nat):Int):=by
  have:=shl_nat (a:=n.toNat) (k:=d) (by omega) (by omega)
  rw[←this];congr 1;omega
 have e2:shlI 1 h=((2^h.toNat:Nat):Int):=by
  have:=shl_nat (a:=1) (k:=h.toNat) (by omega) (by omega)
  rw[Nat.one_mul]at this
  rw[←this];congr 1;omega
 have e3:shlI 1 d=((2^d:Nat):Int):=by
  have hd:2^d≤2^32:=pow32 (by omega)
  have:=shl_nat (a:=1) (k:=d) (by omega) (by omega)
  rw[Nat.one_mul]at this
  exact this
 have hlow:lowI h n d=((n.toNat*2^d-2^h.toNat:Nat):Int):=by
  unfold lowI
  rw[e1,e2,wrapU (by omega) (by omega)];omega
 have htop:topI h n d=((n.toNat*2^d-2^h.toNat+2^d-1:Nat):Int):=by
  unfold topI
  rw[hlow,e3,wrapU (n:=_+_) (by omega) (by omega),wrapU (by omega) (by omega)];omega
 rw[hlow,htop]
theorem leaves_ok {h n:Int} (h0:0≤n) (he:((leavesI h n).2 != 0)=false):okN h.toNat n.toNat=true:=by
 cases hk:okN h.toNat n.toNat with
 |true=>rfl
 |false=>
  unfold leavesI at he
  rw[chk_nat h0,hk]at he
  cases he
theorem leaves_bd {a n:Int} (h0:0≤n) (he:((leavesI a n).2 != 0)=false):0≤(leavesI a n).1.1 ∧(leavesI a n).1.1 ≤(leavesI a n).1.2 ∧(leavesI a n).1.2 <4294967296:=by
 have hk:=leaves_ok h0 he
 obtain⟨p1,p2,p3⟩:=okN_pow hk
 obtain⟨q1,q2,q3,q4⟩:=okN_iff.1 hk
 have hp:=pow32 (h:=a.toNat) (by omega)
 have hp1:2^(a.toNat+1)=2*2^a.toNat:=by rw[Nat.pow_succ];omega
 have hd0:=Nat.two_pow_pos (a.toNat-n.toNat.log2)
 rw[leaves_nat h0 hk]
 generalize 2^(a.toNat-n.toNat.log2)=d at*
 refine⟨Int.natCast_nonneg _, ?_, ?_⟩
 ·show((_:Nat):Int)≤((_:Nat):Int);omega
 ·show((_:Nat):Int)<_;omega
def belowR (a:Int) (l:List Int) (n:Int):List Int×Int:=bif belowB a l n then([],1)else(belowL a l n,0)
def s414:Sp:= .fn [.v I,.v (.sl U),.v U] fun x=>(true,rlu (belowR x.1 x.2.1 x.2.2).1 (belowR x.1 x.2.1 x.2.2).2)
theorem g414:GoodS Tryz.prog N414 s414:=by
 refine good (.cons g368 (.cons g400L (.cons g402u (.cons g428 (.nil _))))) H414 rfl (by kernel_rfl) noL [] (noLoops (by kernel_rfl)) [.v I,.v (.sl U),.v U] (by decide) [.sl true U,.id] _ fun x r hw e=> ?_
 obtain⟨a,l,n⟩:=x
 cases e
 refine(r414 a l n).trans ?_
 unfold belowR
 cases hc:belowB a l n with
 |true=>rfl
 |false=>
  have h1:((leavesI a n).2 != 0)=false:=by
   unfold belowB at hc
   cases h:(leavesI a n).2 != 0 with
   |true=>rw[h]at hc;cases hc
   |false=>rfl
  have h2:lokB a l=true:=by
   unfold belowB at hc;rw[h1]at hc;exact lchk_ok hc
  have hl:=(lok_len h2).1
  have hs:=lok_sorted h2
  have h0:0≤n:=hw.2.2.1
  obtain⟨b1,b2,b3⟩:=leaves_bd h0 h1
  obtain⟨c0,c1,c2⟩:=bsPu_spec (t:=(leavesI a n).1.1) hs
  obtain⟨d0,d1,d2⟩:=bsPu_spec (t:=IntKind.u64.wrap ((leavesI a n).1.2 +1)) hs
  have ew:IntKind.u64.wrap ((leavesI a n).1.2 +1)=(leavesI a n).1.2 +1:=wrapU (by omega) (by omega)
  have hpq:bsPu l (leavesI a n).1.1 ≤bsPu l (IntKind.u64.wrap ((leavesI a n).1.2 +1)):=by
   rcases Nat.lt_or_ge (bsPu l (IntKind.u64.wrap ((leavesI a n).1.2 +1))) (bsPu l (leavesI a n).1.1)with h9|h9
   ·have x1:=c1 _ (by omega) h9
    have x2:=d2 _ (show bsPu l (IntKind.u64.wrap ((leavesI a n).1.2 +1))<l.length by omega) (Nat.le_refl _)
    have b4:(leavesI a n).1.2 ≤IntKind.u64.wrap ((leavesI a n).1.2 +1):=by rw[ew];omega
    exact absurd (Int.lt_of_le_of_lt (Int.le_trans (Int.le_trans b2 b4) x2) x1) (Int.lt_irrefl _)
   ·exact h9
  have ef:(l.take (belQ a l n).toNat).drop (belP a l n).toNat=belowL a l n:=by
   unfold belQ belP belowL
   rw[Int.toNat_natCast,Int.toNat_natCast,cut_filter (lo:=(leavesI a n).1.1) (hi:=(leavesI a n).1.2) hs c1 c2 (fun k hk h=>by have:=d1 k hk h;rw[ew]at this;omega) (fun k hk h=>by have:=d2 k hk h;rw[ew]at this;omega)]
   congr 1
   funext x
   unfold within
   cases decide ((leavesI a n).1.1 ≤x)<;>rfl
  rw[ef,decide_eq_true (show l.length≤1000000 by omega)]
  have g1:(decide (0≤belP a l n)&&decide (belP a l n≤belQ a l n)&&decide (belQ a l n≤(l.length:Int)))=true:=by
   unfold belP belQ
   rw[decide_eq_true (by omega),decide_eq_true (by omega),decide_eq_true (by omega)];rfl
  have g2:(belowL a l n).length≤1000000:=Nat.le_trans (List.length_filter_le _ _) (by omega)
  rw[g1,decide_eq_true g2];rfl
end Go.AM.Seat
