import Derived.Test.YthnonmlhgafalaaGreatZM33
import Derived.Test.YthnonmlhgafalaaGreatZM20
import Derived.Test.YthnonmlhgafalaaGreatZM18
set_option linter.unusedVariables false
set_option linter.unusedSimpArgs false
set_option maxRecDepth 100000
namespace Go.AM.Seat
open Go Go.AM Go.Proofs
section
variable {b:Block.D} {t0:Nat} {l:List Term.D} {m:Value.D}
theorem step_oct {p:List Int} {v:Value.D} (h:Den false b t0 l p v) (hl:l.length<65536) {i:Int} (h0:0≤i) (h2:i≤2): ∃v',partV l v i=(v',l,0)∧Den false b t0 l (i::p) v':=by
 obtain⟨f1,f2,f3,f4,f5⟩:=h.facts
 obtain⟨g1,g2,g3⟩:=h
 have hp:In02 (i::p):=fun x hx=>(List.mem_cons.1 hx).elim (fun e=>e▸⟨h0,h2⟩) (g2 x)
 have he:=partV_may hl f1 f2 h0 h2
 have hb:=partBad_false.2 ⟨f1,f2,h0,h2⟩
 unfold partV at he⊢
 rw[hb]at he⊢
 simp only[cond_false]at he⊢
 obtain rfl:v=octV (foldW b p):=g3
 have e1:(octV (foldW b p)).1=false:=rfl
 rw[e1]at he⊢
 simp only[cond_false]at he⊢
 refine⟨_,by rw[he];rfl,g1,hp,rfl⟩
theorem walk_oct: ∀(sd:List Int) {p:List Int} {v:Value.D},Den false b t0 l p v→l.length<65536→In02 sd→ ∃v',walkL (v,l,0) sd=(v',l,0)∧Den false b t0 l (sd.reverse++p) v':=by
 intro sd
 induction sd with
 |nil=>intro p v h _ _;exact⟨v,rfl,h⟩
 |cons i sd ih=>
  intro p v h hl hs
  obtain⟨i0,i2⟩:=hs i (by simp)
  obtain⟨v1,a1,a3⟩:=step_oct h hl i0 i2
  obtain⟨v2,b1,b3⟩:=ih a3 hl (fun x hx=>hs x (by simp [hx]))
  refine⟨v2, ?_,by rw[List.reverse_cons,List.append_assoc];exact b3⟩
  rw[walkL,←b1,←a1]
  rfl
theorem key_oct {h k:Int} {s:Subset.D} (hd:Den false b t0 l [] m) (hl:l.length<65536) (hn:noKey l h k m s=false) (h1:(pathI h 1 s.1).2=0) (h2:s.2≠0→(pathI h s.1 s.2).2=0):
 ∃v,keyV l h k m s=(v,l,0)∧Den false b t0 l (keyP h k s).reverse v:=by
 obtain⟨v,a1,a3⟩:=walk_oct (keyP h k s) hd hl (keyP_02 h k s)
 refine⟨v, ?_,by rw[List.append_nil]at a3;exact a3⟩
 unfold keyV
 rw[hn,hd.start,labelW_ok h1 h2]
 have e:(bif k != 1 then endW (stepW (walkL (m,l,0) (labP h s)) 2)else endW (walkL (m,l,0) (labP h s)))=endW (walkL (m,l,0) (keyP h k s)):=by
  unfold keyP
  rw[walkL_app]
  cases k != 1<;>rfl
 rw[cond_false,e,a1]
 rfl
theorem wrap_oct {b':Block.D} {t0':Nat} {p:List Int} {key w:Value.D} (hk:Den false b t0 l p key) (hw:Den false b' t0' l [] w) (hf:WF Value w):
 ∃x,wrapV l key w=(x,l,0)∧Opens false l key w x:=by
 obtain⟨f1,f2,f3,f4,_⟩:=hk.facts
 obtain⟨g1,g2,g3,g4,_⟩:=hw.facts
 have hz:isV l [false,false] [key,w]=0:=isV_two.2 ⟨f1,g1,f2,g2,by rw[g4,f4]⟩
 unfold wrapV
 rw[hz,f4]
 simp only[bne_self_eq_false,cond_false]
 obtain rfl:key=octV (foldW b p):=hk.std
 obtain rfl:w=octV (foldW b' []):=hw.std
 exact⟨_,rfl,_,_,rfl,rfl,hf.2.2.1,rfl⟩
theorem Sent.next0 {h k:Int} {c:List Subset.D} {v:List Value.D} {out:List Part.D} {j:Nat} {key x:Value.D} (hm:Sent false b t0 l h k c v out j) (hj:j<c.length) (hd:Den false b t0 l (keyP h k (sAt c j)).reverse key) (ho:Opens false l key (vaT v j) x):
 Sent false b t0 l h k c v (pS2 (pS1 out j (sAt c j)) j x) (j+1):=by
 have:=Sent.next (r:=[]) hm hj (by rw[List.append_nil];exact hd) (by rw[List.append_nil];exact ho)
 rwa [List.append_nil]at this
theorem someR_oct {h k:Int} {c:List Subset.D} {v:List Value.D} (hc: ∀s∈c,mayI h k s=(true,0)∧IntKind.u64.has s.1∧IntKind.u64.has s.2) (hd:Den false b t0 l [] m) (hl:l.length<65536)
 (hv: ∀q:Nat,q<c.length→WF Value (vaT v q)∧ ∃bw tw,Den false bw tw l [] (vaT v q)):
 ∀(n j:Nat) (out:List Part.D),j+n=c.length→Sent false b t0 l h k c v out j→ ∃out',someR h k m c v n j l out=(false,l,out',0,j+n)∧Sent false b t0 l h k c v out' c.length:=by
 intro n
 induction n with
 |zero=>
  intro j out hj hm
  exact⟨out,rfl,by rw[←hj];exact hm⟩
 |succ n ih=>
  intro j out hj hm
  have hjc:j<c.length:=by omega
  have hs:sAt c j∈c:=by
   unfold sAt
   rw[Int.toNat_natCast,List.getD_eq_getElem?_getD,List.getElem?_eq_getElem hjc,Option.getD_some]
   exact List.getElem_mem hjc
  obtain⟨may,u1,u2⟩:=hc _ hs
  obtain⟨p0,p1,p2⟩:=path_root u1 u2 (may_sub may).1
  have hn:noKey l h k m (sAt c j)=false:=by
   unfold noKey
   rw[hd.startE,may];rfl
  obtain⟨key,a1,a3⟩:=key_oct hd hl hn p1 p2
  obtain⟨hwf,bw,tw,hw⟩:=hv j hjc
  obtain⟨x,b1,b4⟩:=wrap_oct a3 hw hwf
  obtain⟨out',c1,c4⟩:=ih (j+1) (pS2 (pS1 out j (sAt c j)) j x) (by omega) (hm.next0 hjc a3 b4)
  refine⟨out', ?_,c4⟩
  rw[someR,a1]
  simp only[bne_self_eq_false,cond_false]
  rw[b1]
  simp only[bne_self_eq_false,cond_false]
  rw[c1,show j+1+n=j+(n+1) by omega]
theorem some_oct {h k:Int} {u:List Int} {c:List Subset.D} {v:List Value.D} (hd:Den false b t0 l [] m) (hc:CovOk h k u c) (h0:0≤h) (hl:l.length<65536) (hvl:v.length=c.length)
 (hv: ∀q:Nat,q<c.length→WF Value (vaT v q)∧ ∃bw tw,Den false bw tw l [] (vaT v q)):
 ∃out,someV l h k m c v=(out,l,0)∧Sent false b t0 l h k c v out c.length:=by
 have hn:noSome l m c v=false:=by
  unfold noSome
  rw[hvl,hd.facts.2.2.2.1,op_true hd]
  simp
 have hb:badSome l h k m c v=false:=by
  unfold badSome
  have e1:c.any (fun s=>oddS h k s)=false:=by
   rw[List.any_eq_false]
   intro s hs
   unfold oddS
   rw[(hc.may h0 s hs).1];decide
  have e2:v.any (fun s=>shutV l (flatV m) s)=false:=by
   rw[List.any_eq_false]
   intro s hs
   obtain⟨q,hq,rfl⟩:=List.getElem_of_mem hs
   obtain⟨_,bw,tw,hw⟩:=hv q (by omega)
   have e:vaT v (q:Int)=v[q]:=by unfold vaT;simp [hq]
   rw[e]at hw
   unfold shutV
   have:(flatV m).1=false:=hd.facts.2.2.2.1
   rw[this,op_true hw];decide
  rw[e1,e2];rfl
 obtain⟨out,c1,c4⟩:=someR_oct (b:=b) (t0:=t0) (m:=m) (hc.may h0) hd hl hv c.length 0 (List.replicate c.length (Part:Ty).dflt) (by omega) ⟨by simp,fun q hq=>absurd hq (Nat.not_lt_zero q)⟩
 have hX:someX l h k m c v=(false,l,out,0,0+c.length):=by
  unfold someX
  rw[Int.toNat_natCast];exact c1
 refine⟨out, ?_,c4⟩
 unfold someV
 rw[hn,hb,hX];rfl
end
theorem plain_octC {l:List Term.D} {v:Value.D} (h:checkV l v=0) (hs:v.1=false):(v.2.1 =true∧v=sealV v.2.2.2.1)∨(v.2.1 =false∧v=octV v.2.2.1):=by
 have h2:=(checkV_zero.1 h).2
 have hi:isSym l v=false:=by unfold isSym;rw[hs];rfl
 unfold plainV at h2
 rw[hi]at h2
 cases hb:v.2.1 with
 |true=>rw[hb]at h2;exact .inl ⟨rfl,h2⟩
 |false=>rw[hb]at h2;exact .inr ⟨rfl,h2⟩
theorem den_ofC {l:List Term.D} {v:Value.D} (h:startE l v=0): ∃sym b t0,Den sym b t0 l [] v:=by
 unfold startE at h
 cases hb:b51 l v with
 |true=>rw[hb]at h;cases h
 |false=>
  rw[hb]at h
  have hc:checkV l v=0:=h
  have hg:GoodL l:=checkL_iff.1 (checkV_zero.1 hc).1
  unfold b51 at hb
  rw[hc]at hb
  simp only[beq_self_eq_true,cond_true]at hb
  cases hs:v.1 with
  |true=>
   obtain⟨e,h0,h1⟩:=plain_sym hc hs
   obtain⟨t,ht⟩:=Int.eq_ofNat_of_zero_le h0
   rw[ht]at e h1
   have hk:((tAt l v.2.2.2.2).1==5)=false:=by
    rw[hs]at hb
    cases h2:v.2.1 with
    |true=>rw[h2]at hb;cases hb
    |false=>rw[h2]at hb;exact hb
   rw[ht]at hk
   have hlt:t<l.length:=by simpa using h1
   have hx:l[t]? =some l[t]:=List.getElem?_eq_getElem hlt
   refine⟨true,(0,0),t,hg,fun x hx=>(by cases hx),t,e, ?_⟩
   refine⟨rfl,l[t],hx, ?_⟩
   rw[tAt_get hx]at hk
   simpa using hk
  |false=>
   rcases plain_octC hc hs with⟨h2,e⟩|⟨h2,e⟩
   ·rw[h2]at hb;cases hb
   ·exact⟨false,v.2.2.1,0,hg,fun x hx=>(by cases hx),e⟩
theorem atom_law {sym:Bool} {l:List Term.D} (hg:GoodL l) (hl:l.length<65536) {n:Int} (n0:0≤n) (n1:n≤1048576) {b:Block.D} (hb:WF Block b):
 ∃v r,atomV l sym n b=(v,l++r,0)∧r.length≤1∧WF Value v∧(∃b' t',Den sym b' t' (l++r) [] v)∧(sym=false→v=octV b∧r=[])∧(sym=true→ ∃i:Nat,v=symV i∧(l++r)[i]? =some (1,n,0)):=by
 have z:IntKind.u64.has 0:=⟨by decide,by decide⟩
 have z2:IntKind.i64.has 0:=⟨by decide,by decide⟩
 have hnil:In02 []:=fun x hx=>by cases hx
 cases sym with
 |true=>
  have hm:mayB (1,n,0) l.length=true:=by
   unfold mayB mayBad
   simp only[decide_eq_false (show ¬((1:Int)<1) by decide),decide_eq_false (show ¬((1:Int)>5) by decide),cond_false]
   show(bif decide (n≥0)then decide (n≤1048576)else false)=true
   rw[decide_eq_true (show n≥0 by omega),decide_eq_true n1];rfl
  have h0:=madeV_may hg hm hl
  obtain⟨i,r,e,_,g2,hget,_⟩:=madeV_ok h0
  have hlen:=madeV_len l (1,n,0)
  rw[e]at hlen
  simp only[List.length_append]at hlen
  have hi:=(List.getElem?_eq_some_iff.1 hget).1
  have hi2:=g2.1
  refine⟨symV i,r,e,by omega,⟨trivial,trivial,⟨z,z⟩,⟨⟨z,z⟩,⟨z,z⟩⟩, ?_⟩,⟨(0,0),i,g2,hnil,i,rfl,rfl,(1,n,0),hget,by show(1:Int)≠5;decide⟩,(fun h=>by cases h),fun _=>⟨i,rfl,hget⟩⟩
  show IntKind.i64.has (i:Int)
  exact⟨by show(-9223372036854775808:Int)≤i;omega,by show(i:Int)≤9223372036854775807;omega⟩
 |false=>
  refine⟨octV b,[], ?_,Nat.zero_le _,⟨trivial,trivial,hb,⟨⟨z,z⟩,⟨z,z⟩⟩,z2⟩,⟨b,0,by rw[List.append_nil];exact⟨hg,hnil,rfl⟩⟩,(fun _=>⟨rfl,rfl⟩),(fun h=>by cases h)⟩
  unfold atomV
  rw[checkL_iff.2 hg,List.append_nil];rfl
structure SentC (c c':CenT.D) (b:Block.D) (x:HeadT.D) (key:Value.D) (r:List Term.D):Prop where
 same:c'=(cH c,cK c,cY c,cM c,cR c,cE c+1,cD c,cA c+1,cL c++r)
 hdr:cH c=x.2.1 ∧cK c=x.1∧x.2.2.1 =cE c+1
 rlen:r.length≤4+(coverI (cH c) (cK c) (rL (cR c))).1.length *(2*(cH c).toNat+3)
 cov:CovOk (cH c) (cK c) (rL (cR c)) (coverI (cH c) (cK c) (rL (cR c))).1∧(coverI (cH c) (cK c) (rL (cR c))).2=0
 high:1≤cH c
 kden: ∃bk tk,Den (cY c) bk tk (cL c++r) [] key
 atom:cY c=true→ ∃i:Nat,key=symV i∧(cL c++r)[i]? =some (1,cA c,0)
 oct:cY c=false→key=octV ((cD c).getD (cA c).toNat (Block:Ty).dflt)∧r=[]
 sent: ∃bm tm,Den (cY c) bm tm (cL c++r) [] (cM c)∧Sent (cY c) bm tm (cL c++r) (cH c) (cK c) (coverI (cH c) (cK c) (rL (cR c))).1 (List.replicate (coverI (cH c) (cK c) (rL (cR c))).1.length key) (x.2.2.2.1) (coverI (cH c) (cK c) (rL (cR c))).1.length
 pay: ∃text,Opens (cY c) (cL c++r) key text x.2.2.2.2 ∧(∃bt tt,Den (cY c) bt tt (cL c++r) [] text)∧(cY c=false→text=octV b)∧(cY c=true→ ∃i:Nat,text=symV i∧(cL c++r)[i]? =some (1,524288+(cE c+1),0))
theorem Sent.mono {sym:Bool} {bm:Block.D} {tm:Nat} {l r:List Term.D} {h k:Int} {c:List Subset.D} {v:List Value.D} {out:List Part.D} {n:Nat} (hs:Sent sym bm tm l h k c v out n) (hg:GoodL (l++r)):Sent sym bm tm (l++r) h k c v out n:=
 ⟨hs.1,fun q hq=>by obtain⟨key,x,e,d,o⟩:=hs.2 q hq;exact⟨key,x,e,d.mono hg,o.mono r⟩⟩
theorem mayI_sch {h k:Int} (h0:(mayI h k (1,0)).2=0):schE h k=0:=by
 unfold mayI mayB3 at h0
 cases h1:schE h k != 0 with
 |true=>rw[h1]at h0;exact absurd (show(1:Int)=0 from h0) (by decide)
 |false=>simpa using h1
theorem getD_wf {l:List Block.D} (h: ∀x∈l,WF Block x) (n:Nat):WF Block (l.getD n (Block:Ty).dflt):=by
 rw[List.getD_eq_getElem?_getD]
 cases hx:l[n]? with
 |none=>exact⟨⟨by decide,by decide⟩,⟨by decide,by decide⟩⟩
 |some x=>exact h x (List.mem_of_getElem? hx)
theorem send_lawN {c:CenT.D} {b:Block.D} (hk:ChkOk c) (hwu: ∀y∈rL (cR c),IntKind.u64.has y) (hwd: ∀y∈cD c,WF Block y) (hb:WF Block b) (hl:(cL c).length+(coverI (cH c) (cK c) (rL (cR c))).1.length *(2*(cH c).toNat+3)≤65000) (hep:cE c≠lastI (cY c)) (hat:cA c≠(cD c).length):
 ∃c' x key r,sendI c b=((x,key,0),c')∧SentC c c' b x key r:=by
 have hE0:=hk.ep0
 have hE1:=hk.ep1
 have hA0:=hk.at0
 have hA1:=hk.at1
 have hD:=hk.draws
 have hlast:lastI (cY c)≤1099511627776:=by unfold lastI;cases cY c<;>decide
 have hE2:cE c+1≤lastI (cY c):=by omega
 obtain⟨sym,bm,tm,dm⟩:=den_ofC hk.start
 obtain rfl:sym=cY c:=dm.facts.2.2.2.1.symm.trans hk.kind
 obtain⟨_,hlok⟩:=roll_ok hk.roll
 have hlok:lokB (cH c) (rL (cR c))=true:=by have:=hlok;rw[hk.high]at this;exact this
 obtain⟨cv1,cv2⟩:=cover_law (mayI_sch hk.may) hlok hwu
 obtain⟨_,_,_,hh1,_⟩:=cover_ok hwu cv1
 obtain⟨C,hC⟩: ∃C,C=(coverI (cH c) (cK c) (rL (cR c))).1:=⟨_,rfl⟩
 obtain⟨key,r1,e1,a1,w1,⟨b1,t1,d1⟩,o1,s1⟩:=atom_law (sym:=cY c) dm.good (by omega) (n:=cA c) (by omega) (by omega) (getD_wf hwd (cA c).toNat)
 have hwr:IntKind.i64.wrap (cE c+1)=cE c+1:=wrap64 (by omega) (by omega)
 have hwa:IntKind.i64.wrap (cA c+1)=cA c+1:=wrap64 (by omega) (by omega)
 have hd:drawV (setE c)=((key,0),setAL (setE c) (cA c+1) (cL c++r1)):=by
  unfold drawV
  have h1:(cA (setE c)==((cD (setE c)).length:Int))=false:=beq_eq_false_iff_ne.2 hat
  have h2:atm (setE c)=(key,cL c++r1,0):=e1
  rw[h1,h2]
  show((key,(0:Int)),setAL (setE c) (IntKind.i64.wrap (cA c+1)) (cL c++r1))=_
  rw[hwa]
 obtain⟨n,hn⟩: ∃n,n=payN (setAL (setE c) (cA c+1) (cL c++r1)):=⟨_,rfl⟩
 have hn':(0≤n∧n≤1048576)∧(cY c=true→n=524288+(cE c+1)):=by
  have e:n=bif cY c then IntKind.i64.wrap (524288+IntKind.i64.wrap (cE c+1))else 0:=hn
  rw[hwr]at e
  cases hy:cY c with
  |true=>
   rw[hy]at e hE2
   have hE2:cE c+1≤524287:=hE2
   have e:n=IntKind.i64.wrap (524288+(cE c+1)):=e
   rw[wrap64 (by omega) (by omega)]at e
   exact⟨⟨by omega,by omega⟩,fun _=>e⟩
  |false=>rw[hy]at e;have e:n=0:=e;exact⟨⟨by omega,by omega⟩,fun h=>by cases h⟩
 have hl1:(cL c++r1).length≤(cL c).length+1:=by rw[List.length_append];omega
 obtain⟨text,r2,e2,a2,w2,⟨b2,t2,d2⟩,o2,s2⟩:=atom_law (sym:=cY c) d1.good (by omega) hn'.1.1 hn'.1.2 hb
 have dm2:=(dm.mono d1.good).mono d2.good
 have dk2:=d1.mono d2.good
 have hl2:(cL c++r1++r2).length≤(cL c).length+2:=by rw[List.length_append];omega
 have hva: ∀q:Nat,q<C.length→vaT (List.replicate C.length key) q=key:=fun q hq=>by
  unfold vaT
  rw[Int.toNat_natCast,List.getD_eq_getElem?_getD,List.getElem?_replicate,if_pos hq];rfl
 rw[←hC]at hl cv2
 generalize hN:C.length*(2*(cH c).toNat+3)=N at hl
 obtain⟨r3,out,e3,a3,g3,sn⟩:=some_lawN (v:=List.replicate C.length key) dm2 cv2 (by omega) (by rw[hN];omega) (List.length_replicate ..) (fun q hq=>by rw[hva q hq];exact⟨w1,_,_,dk2⟩)
 have hS:sendV (cL c++r1++r2) (cH c) (cK c) (cM c) (rL (cR c)) key=(out,cL c++r1++r2++r3,0):=by
  unfold sendV
  rw[cv1,←hC,e3];rfl
 have dk3:=dk2.mono g3
 have dt3:=d2.mono g3
 rw[hN]at a3
 have hl3:(cL c++r1++r2++r3).length≤(cL c).length+2+N:=by rw[List.length_append];omega
 obtain⟨x,r4,e4,a4,g4,op⟩:=wrap_run dk3 dt3 w2 (by omega)
 have hr:cL c++r1++r2++r3++r4=cL c++(r1++r2++r3++r4):=by simp [List.append_assoc]
 refine⟨(cH c,cK c,cY c,cM c,cR c,cE c+1,cD c,cA c+1,cL c++(r1++r2++r3++r4)),(cK c,cH c,cE c+1,out,x),key,r1++r2++r3++r4, ?_, ?_⟩
 ·unfold sendI
  rw[hd]
  simp only[bne_self_eq_false,cond_false]
  rw[←hn]
  unfold restV
  have t1:txt (setAL (setE c) (cA c+1) (cL c++r1)) n b=(text,cL c++r1++r2,0):=e2
  have p1:pts (setAL (setE c) (cA c+1) (cL c++r1)) key n b=(out,cL c++r1++r2++r3,0):=by
   unfold pts
   rw[t1];exact hS
  have q1:wrp (setAL (setE c) (cA c+1) (cL c++r1)) key n b=(x,cL c++r1++r2++r3++r4,0):=by
   unfold wrp
   rw[p1,t1];exact e4
  rw[t1,p1,q1]
  simp only[bne_self_eq_false,cond_false]
  unfold hdr setL setAL setE
  rw[hwr,hr]
 ·have hz:cY c=false→r1++r2++r3++r4=[]:=fun hy=>by
   have z1:=(o1 hy).2
   have z2:=(o2 hy).2
   subst z1 z2
   rw[hy]at dm2 dk2 d2 dk3 dt3
   obtain⟨out',f1,_⟩:=some_oct (v:=List.replicate C.length key) dm2 cv2 (by omega) (by omega) (List.length_replicate ..) (fun q hq=>by rw[hva q hq];exact⟨w1,_,_,dk2⟩)
   rw[e3]at f1
   have z3:r3=[]:=by
    have:=congrArg (fun y:List Part.D×List Term.D×Int=>y.2.1.length) f1
    simp at this
    exact this
   subst z3
   obtain⟨x',f2,_⟩:=wrap_oct dk3 dt3 w2
   rw[e4]at f2
   have z4:r4=[]:=by
    have:=congrArg (fun y:WS=>y.2.1.length) f2
    simp at this
    exact this
   rw[z4];rfl
  refine⟨rfl,⟨rfl,rfl,rfl⟩,by rw[←hC,hN];simp only[List.length_append];omega,⟨by rw[←hC];exact cv2,cv1⟩,hh1,⟨_,_,hr▸dk3.mono g4⟩,fun hy=> ?_,fun hy=>⟨(o1 hy).1,hz hy⟩,⟨bm,tm,hr▸(dm2.mono g3).mono g4,by rw[←hC];exact hr▸Sent.mono sn g4⟩,text,hr▸op,⟨_,_,hr▸dt3.mono g4⟩,fun hy=>(o2 hy).1,fun hy=> ?_⟩
  ·obtain⟨i,k1,k2⟩:=s1 hy
   have:=(List.getElem?_eq_some_iff.1 k2).1
   exact⟨i,k1,by rw[←hr,List.append_assoc,List.append_assoc,List.getElem?_append_left this];exact k2⟩
  ·obtain⟨i,k1,k2⟩:=s2 hy
   have:=(List.getElem?_eq_some_iff.1 k2).1
   exact⟨i,k1,by rw[←hr,List.append_assoc,List.getElem?_append_left this,k2,hn'.2 hy]⟩
def fewB (c:CenT.D):Bool:=
 bif bif bif bif decide (cH c≤4)then true else decide (cH c>32)then decide (((cL c).length:Int)≤300)else false then decide (((rL (cR c)).length:Int)≤20)else false then
  bif decide (((cD c).length:Int)≤60)then true else bif decide (((cD c).length:Int)>4096)then decide (((cD c).length:Int)<4100)else false else false
def Γ814:Orc:=orc [(N836,s836),(N817,s817)]
theorem r814:run Γ814 noL [] F814 [] []=some (.one (.bool true)):=by kernel_rfl
def s814:Sp:= .fn [] fun _=>(true,.one (.bool true))
theorem g814:GoodS Tryz.prog N814 s814:=by
 refine good (.cons g836 (.cons g817 (.nil _))) H814 rfl (by kernel_rfl) noL [] (noLoops (by kernel_rfl)) [] (by decide) [] _ fun x r hw e=> ?_
 cases e
 exact r814
def oB7 (b:Bool):Option AV:=some (.one (.bool b))
def two:List Term.D:=[(1,0,0),(1,1,0)]
abbrev hL (x:HeadT.D):List Part.D:=x.2.2.2.1
abbrev hP (x:HeadT.D):Value.D:=x.2.2.2.2
section
variable {sym:Bool} {b:Block.D} {t0:Nat} {l:List Term.D} {m:Value.D}
end
theorem ChkOk.h4 {c:CenT.D} (hk:ChkOk c) (hwu: ∀y∈rL (cR c),IntKind.u64.has y) (h:cH c≤4∨cH c>32):cH c≤4∧1≤cH c:=by
 obtain⟨_,hlok⟩:=roll_ok hk.roll
 have hlok:lokB (cH c) (rL (cR c))=true:=by have:=hlok;rw[hk.high]at this;exact this
 obtain⟨cv1,_⟩:=cover_law (mayI_sch hk.may) hlok hwu
 obtain⟨_,_,_,h1,h2⟩:=cover_ok hwu cv1
 exact⟨by omega,h1⟩
def hn1 (h n:Int):Bool:=bif bif decide (h≥1)then decide (h≤32)else false then decide (n≥1)else false
def mayN (h n:Int):Bool:=okN h.toNat n.toNat
def chainN (n:Nat):List Int:=(List.range (n.log2+1)).map fun d=>((n/2^(n.log2-d):Nat):Int)
theorem chainN_len (n:Nat):(chainN n).length=n.log2+1:=by unfold chainN;simp
def othI (h n:Int):Int×Int:=bif !mayN h n then(0,1)else bif n==1 then(0,4)else(xorI n 1,0)
def inL (h k top:Int):List Int→List Subset.D→List Subset.D
 |[],out=>out
 |x::r,out=>inL h k top r (bif (bif k==2 then true else(useI h (top,(othI h x).1)).1)then out++[(top,(othI h x).1)]else out)
def wL (l:List Int):List Subset.D:=l.map fun x=>(x,0)
theorem chain_at {L d:Nat} (h:d≤L.log2):iAt (chainN L) (d:Int)=((L/2^(L.log2-d):Nat):Int):=by
 unfold iAt chainN
 rw[Int.toNat_natCast,List.getD_eq_getElem?_getD,List.getElem?_map,List.getElem?_range (by omega)]
 rfl
theorem LeafAt.shr {H x d:Nat} (a:LeafAt H x) (hd:d≤H):shrI ((leafN H x:Nat):Int) ((H:Int)-(d:Int))=iAt (chainN (leafN H x)) (d:Int):=by
 rw[chain_at (by rw[a.log];exact hd),a.log,show(H:Int)-(d:Int)=((H-d:Nat):Int) by omega,shr_nat (by omega) (by have:=a.h2;omega),Int.toNat_natCast,Int.toNat_natCast]
theorem LeafAt.len {H x:Nat} (a:LeafAt H x):(chainN (leafN H x)).length=H+1:=by rw[chainN_len,a.log]
theorem LeafAt.whole {H x:Nat} (a:LeafAt H x):wG (H:Int) ((leafN H x:Nat):Int) (H+1) 0 []=wL (chainN (leafN H x)):=by
 rw[wG_eq,List.nil_append]
 unfold wL chainN
 rw[a.log,List.map_map]
 apply List.map_congr_left
 intro d hd
 have hd:=List.mem_range.1 hd
 show(shrI _ ((H:Int)-((0+d:Nat):Int)),(0:Int))=(((leafN H x/2^(H-d):Nat):Int),0)
 rw[Nat.zero_add,a.shr (by omega),chain_at (by rw[a.log];omega),a.log]
def hot (n:Nat):AV:= .one (.hot n none)
def strict (f0:Bool):(t:Ty)→List SV→Option (t.D×List SV)
 | .int k,.int k' n::r=>bif ikEq k k' then some (n,r)else none
 | .bool,.bool b::r=>some (b,r)
 | .str,.str s::r=>some (s,r)
 | .unit,l=>some ((),l)
 | .pair a b,l=>
   match strict f0 a l with
   |some (x,r)=>
    match strict f0 b r with
    |some (y,r')=>some ((x,y),r')
    |none=>none
   |none=>none
 | .sl t,.sl fr t' none xs::r=>
   bif boolBeq fr f0 then
    match Ty.castL t' t xs with
    |some ys=>some (ys,r)
    |none=>none
   else none
 |_,_=>none
theorem boolBeq_eq {a b:Bool} (h:boolBeq a b=true):a=b:=by cases a<;>cases b<;>first|rfl|cases h
theorem strict_eq {f0:Bool}: ∀ {t:Ty} {l:List SV} {x:t.D} {r:List SV},strict f0 t l=some (x,r)→l=enc t f0 x++r:=by
 intro t
 induction t with
 |int k=>
  intro l x r h
  match l,h with
  | .int k' n::l,h=>
    simp only[strict]at h
    cases hk:ikEq k k' with
    |false=>rw[hk]at h;cases h
    |true=>
     rw[hk]at h
     cases h
     obtain rfl:k=k':=by cases k<;>cases k'<;>first|rfl|cases hk
     rfl
 |bool=>intro l x r h;match l,h with| .bool b::l,h=>cases h;rfl
 |str=>intro l x r h;match l,h with| .str b::l,h=>cases h;rfl
 |unit=>intro l x r h;cases h;rfl
 |pair a b iha ihb=>
  intro l x r h
  simp only[strict]at h
  split at h
  ·rename_i x1 r1 h1
   split at h
   ·rename_i y1 r2 h2
    cases h
    rw[iha h1,ihb h2]
    simp [enc]
   ·cases h
  ·cases h
 |sl t _=>
  intro l x r h
  match l,h with
  | .sl fr t' none xs::l,h=>
    simp only[strict]at h
    cases hb:boolBeq fr f0 with
    |false=>rw[hb]at h;cases h
    |true=>
     rw[hb]at h
     simp only[cond_true]at h
     split at h
     ·rename_i ys hy
      cases h
      obtain⟨e,rfl⟩:=castL_eq' hy
      subst e
      rw[boolBeq_eq hb]
      rfl
     ·cases h
def strictA (f0:Bool) (t:Ty) (l:List SV):Option t.D:=
 match strict f0 t l with
 |some (x,[])=>some x
 |_=>none
theorem strictA_eq {f0:Bool} {t:Ty} {l:List SV} {x:t.D} (h:strictA f0 t l=some x):l=enc t f0 x:=by
 unfold strictA at h
 split at h
 ·rename_i y hy
  cases h
  rw[strict_eq hy,List.append_nil]
 ·cases h
abbrev live858:List (Nat×Dir):=[(0,.keep),(1,.keep),(4,.keep),(12,.keep),(13,.keep)]
def vs858 (a b:List U.D) (r:Bool) (n j:Int):List AV:=[.one (.sl false U none a),.one (.sl false U none b),.one (.bool r),.one (.int .i64 n),.one (.int .i64 j)]
noncomputable abbrev lo858 (Λ:Lam AV) (K:AE→List AV→Option AV) (fuel:Nat) (vs:List AV):Option AV:=loopN (aexec tb (orc []) Λ ⟨26,0,[(0,live858)]⟩ (loop1 F858).2 0) 26 0 live858 K fuel vs
def ne858 (a b:List U.D) (j:Int):Bool:= !eqD U (a.getD j.toNat (U:Ty).dflt) (b.getD j.toNat (U:Ty).dflt)
theorem step858 (a b:List U.D) (n j:Int) (Λ:Lam AV) (K:AE→List AV→Option AV) (fuel:Nat):lo858 Λ K (fuel+1) (vs858 a b false n j)=
 bif decide (j<n)then bif inB j a.length then bif inB j b.length then bif ne858 a b j then K .ret (vs858 a b false n j)else lo858 Λ K fuel (vs858 a b false n (IntKind.i64.wrap (j+1)))else none else none else K (.exit 0) (vs858 a b false n j):=by kernel_rfl
def Λ858:Lam AV:=fun _ vs K=>
 match vs with
 |[.one (.sl false (.int .u64) none a),.one (.sl false (.int .u64) none b),.one (.bool false),.one (.int .i64 n),.one (.int .i64 0)]=>
  bif decide (n=a.length)&&(decide ((a.length:Int)≤9223372036854775807)&&decide (b.length=a.length))then allK (fun j=>K .ret (vs858 a b false n j)) (K (.exit 0) (vs858 a b false n n)) (fun j=>ne858 a b j) a.length 0 else none
 |_=>none
theorem loop858:LoopP tb (orc []) Λ858 ⟨26,0,[(0,live858)]⟩ (loop1 F858):=by
 intro vs K out e
 have hcur:(loop1 F858).1=0:=by kernel_rfl
 rw[hcur]at e⊢
 unfold Λ858 at e
 split at e
 ·rename_i a b n
  cases hc:decide (n=a.length)&&(decide ((a.length:Int)≤9223372036854775807)&&decide (b.length=a.length))with
  |false=>rw[hc]at e;cases e
  |true=>
   rw[hc]at e
   simp only[cond_true]at e
   simp only[Bool.and_eq_true,decide_eq_true_eq]at hc
   obtain⟨rfl,hmax,hl⟩:=hc
   refine upLoop (α:=Unit) (n:=a.length) (F:=fun fuel _ j=>lo858 Λ858 K fuel (vs858 a b false a.length j))
    (G:=fun j _=>allK (fun j=>K .ret (vs858 a b false a.length j)) (K (.exit 0) (vs858 a b false a.length a.length)) (fun j=>ne858 a b j) (a.length-j) j)
    (fun fuel _=> ?_) (fun _ j hj=> ?_) a.length 0 () out (by omega) e
   ·simp only[step858,nlt_dec,cond_false,Nat.sub_self,allK]
   ·have hm:a.length-j=(a.length-(j+1))+1:=by omega
    have hstep: ∀fuel,lo858 Λ858 K (fuel+1) (vs858 a b false a.length j)=bif ne858 a b j then K .ret (vs858 a b false a.length j)else lo858 Λ858 K fuel (vs858 a b false a.length ((j+1:Nat):Int)):=by
     intro fuel
     rw[step858,lt_dec hj,inB_lt hj,inB_lt (show j<b.length by omega),wrap64 (n:=(j:Int)+1) (by omega) (by omega)]
     rfl
    cases hx:ne858 a b j with
    |true=>right;intro fuel;rw[hstep,hx];simp only[hm,allK,hx,cond_true]
    |false=>
     left;refine⟨(),fun fuel=> ?_, ?_⟩
     ·rw[hstep,hx];rfl
     ·simp only[hm,allK,hx,cond_false]
 ·cases e
theorem r858 (a b:List U.D):run (orc []) Λ858 [(0,live858)] F858 (encA [.v (.sl U),.v (.sl U)] (a,b)) []=
 bif (a.length:Int) != b.length then oB7 false else
 bif decide ((a.length:Int)=a.length)&&(decide ((a.length:Int)≤9223372036854775807)&&decide (b.length=a.length))then allK (fun _=>oB7 false) (oB7 true) (fun j=>ne858 a b j) a.length 0 else none:=by kernel_rfl
def same858 (a b:List U.D):Bool:=bif (a.length:Int) != b.length then false else !anyK (fun j=>ne858 a b j) a.length 0
def s858:Sp:= .fn [.v (.sl U),.v (.sl U)] fun x=>(true,.one (.bool (same858 x.1 x.2)))
theorem g858:GoodS Tryz.prog N858 s858:=by
 refine good (.nil _) H858 rfl (by kernel_rfl) Λ858 [(0,live858)] (oneLoop (p0:=loop1 F858) (by kernel_rfl) loop858) [.v (.sl U),.v (.sl U)] (by decide) [] _ fun x r hw e=> ?_
 obtain⟨a,b⟩:=x
 cases e
 refine(r858 a b).trans ?_
 unfold same858
 cases hl:(a.length:Int) != b.length with
 |true=>rfl
 |false=>
  have hl:a.length=b.length:=by simp at hl;omega
  have hmx:a.length≤9223372036854775807:=hw.1.1
  rw[decide_eq_true (show(a.length:Int)=a.length from rfl),decide_eq_true (show(a.length:Int)≤9223372036854775807 by omega),decide_eq_true hl.symm,allK_two]
  simp only[Bool.and_self,cond_true,cond_false]
  cases anyK (fun j=>ne858 a b j) a.length 0<;>rfl
theorem same858_self (a:List U.D):same858 a a=true:=by
 unfold same858
 have:anyK (fun j=>ne858 a a j) a.length 0=false:=anyK_false _ _ fun q _ hq=>by
  unfold ne858
  simp [eqD]
 rw[this]
 simp
def sameR (a b:RollT.D):Bool:=bif bif bif a.1==b.1 then a.2.1 ==b.2.1 else false then same858 a.2.2.1 b.2.2.1 else false then a.2.2.2 ==b.2.2.2 else false
theorem r822 (a b:RollT.D):run (orc [(N858,s858)]) noL [] F822 (encA [.v RollT,.v RollT] (a,b)) []=some (.one (.bool (sameR a b))):=by kernel_rfl
def s822:Sp:= .fn [.v RollT,.v RollT] fun x=>(true,.one (.bool (sameR x.1 x.2)))
theorem g822:GoodS Tryz.prog N822 s822:=by
 refine good (.cons g858 (.nil _)) H822 rfl (by kernel_rfl) noL [] (noLoops (by kernel_rfl)) [.v RollT,.v RollT] (by decide) [] _ fun x r hw e=> ?_
 cases e
 exact r822 x.1 x.2
theorem sameR_self (a:RollT.D):sameR a a=true:=by
 unfold sameR
 simp [same858_self]
section
variable {b:Block.D} {t0:Nat} {l:List Term.D} {m:Value.D}
end
theorem ChkOk.zero {c:CenT.D} (h:ChkOk c):chkC c=0:=by
 have hb:chkB c=false:=by
  unfold chkB
  rw[h.may,h.walk,h.kind,h.roll,h.high]
  simp
 unfold chkC
 have h0:=h.ep0
 have h1:=h.ep1
 have h2:=h.draws
 have h3:=h.at0
 have h4:=h.at1
 rw[hb,decide_eq_false (show ¬cE c<0 by omega),decide_eq_false (show ¬cE c>lastI (cY c) by omega),decide_eq_false (show ¬((cD c).length:Int)>4096 by omega),decide_eq_false (show ¬cA c<1 by omega),decide_eq_false (show ¬cA c>((cD c).length:Int) by omega)]
 rfl
theorem sendC_none {c:CenT.D} {b:Block.D} (h:ChkOk c) (ha:cA c=((cD c).length:Int)) (hp:(cE c==lastI (cY c))=false):sendC c b=(zeroH,zeroV,zeroC,10):=by
 unfold sendC
 have hd:(sendI c b).1.2.2 =10:=by
  unfold sendI drawV
  have h1:(cA (setE c)==((cD (setE c)).length:Int))=true:=beq_iff_eq.2 ha
  rw[h1];rfl
 rw[h.zero,hp,hd];rfl
theorem sendC_ok {c c':CenT.D} {b:Block.D} {x:HeadT.D} {key:Value.D} (h:ChkOk c) (hp:(cE c==lastI (cY c))=false) (hs:sendI c b=((x,key,0),c')):sendC c b=(x,key,c',0):=by
 unfold sendC
 rw[h.zero,hp,hs];rfl
end Go.AM.Seat
