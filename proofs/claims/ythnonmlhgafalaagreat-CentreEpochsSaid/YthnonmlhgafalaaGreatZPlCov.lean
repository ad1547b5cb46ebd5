import Derived.Test.YthnonmlhgafalaaGreatZPlNode
set_option linter.unusedVariables false
namespace Go.AM.Seat
open Go Go.AM
theorem xorN_div {a b:Nat} (k:Nat):(a^^^b)/2^k=(a/2^k)^^^(b/2^k):=by
 rw[←Nat.shiftRight_eq_div_pow,←Nat.shiftRight_eq_div_pow,←Nat.shiftRight_eq_div_pow,Nat.shiftRight_xor_distrib]
theorem xorN_zero {a b:Nat}:a^^^b=0↔a=b:=by
 constructor
 ·intro h
  have:a^^^b^^^b=0^^^b:=by rw[h]
  rwa [Nat.xor_assoc,Nat.xor_self,Nat.xor_zero,Nat.zero_xor]at this
 ·rintro rfl;exact Nat.xor_self a
theorem agreeN {a b k:Nat}:a/2^k=b/2^k↔a^^^b<2^k:=by
 rw[←xorN_zero,←xorN_div,Nat.div_eq_zero_iff_lt (Nat.two_pow_pos k)]
def bitsN (n:Nat):Nat:=if n=0 then 0 else n.log2+1
theorem bitsN_le {n k:Nat}:bitsN n≤k↔n<2^k:=by
 unfold bitsN
 by_cases h:n=0
 ·rw[if_pos h,h];have:=Nat.two_pow_pos k;omega
 ·rw[if_neg h,←Nat.log2_lt h];omega
theorem agree_bits {a b k:Nat}:a/2^k=b/2^k↔bitsN (a^^^b)≤k:=by rw[agreeN,bitsN_le]
theorem abv_trans {a b c:Nat} (h1:abv a b=true) (h2:abv b c=true):abv a c=true:=by
 obtain⟨p1,p2⟩:=abv_iff.1 h1
 obtain⟨q1,q2⟩:=abv_iff.1 h2
 refine abv_iff.2 ⟨by omega, ?_⟩
 rw[show c.log2-a.log2=(c.log2-b.log2)+(b.log2-a.log2) by omega,←div_div_pow,q2,p2]
def upN (L d:Nat):Nat:=L/2^(L.log2-d)
theorem upN_log {L d:Nat} (h0:L≠0) (h:d≤L.log2):(upN L d).log2=d:=by unfold upN;rw[log2_div h0 (by omega)];omega
theorem upN_ne {L d:Nat} (h0:L≠0):upN L d≠0:=div_pos h0 (by omega)
theorem upN_abv {L d:Nat} (h0:L≠0) (h:d≤L.log2):abv (upN L d) L=true:=abv_iff.2 ⟨by rw[upN_log h0 h];exact h,by rw[upN_log h0 h];rfl⟩
theorem abv_upN {a L:Nat} (h:abv a L=true):a=upN L a.log2:=(abv_iff.1 h).2.symm
theorem upN_up {L d e:Nat} (h0:L≠0) (h1:d≤e) (h2:e≤L.log2):abv (upN L d) (upN L e)=true:=by
 refine abv_iff.2 ⟨by rw[upN_log (d:=d) h0 (by omega),upN_log (d:=e) h0 h2];exact h1, ?_⟩
 rw[upN_log (d:=d) h0 (by omega),upN_log (d:=e) h0 h2]
 unfold upN
 rw[div_div_pow];congr 2;omega
theorem upN_zero {L:Nat} (h0:L≠0):upN L 0=1:=by
 unfold upN
 rw[Nat.sub_zero]
 have a:=log2_le h0
 have b:=lt_log2 (n:=L)
 rw[Nat.pow_succ]at b
 exact Nat.div_eq_of_lt_le (by omega) (by omega)
theorem upN_self (L:Nat):upN L L.log2=L:=by unfold upN;rw[Nat.sub_self,Nat.pow_zero,Nat.div_one]
theorem abv_one {L:Nat} (h0:L≠0):abv 1 L=true:=by have:=upN_abv h0 (Nat.zero_le _);rwa [upN_zero h0]at this
theorem abv_comp {a b L:Nat} (h0:L≠0) (ha:abv a L=true) (hb:abv b L=true) (h:a.log2≤b.log2):abv a b=true:=by
 rw[abv_upN ha,abv_upN hb]
 exact upN_up h0 h (abv_iff.1 hb).1
theorem log2_two {d:Nat} (h0:d≠0):(2*d).log2=d.log2+1∧(2*d+1).log2=d.log2+1:=by
 have a:=log2_le h0
 have b:=lt_log2 (n:=d)
 constructor<;>apply log2_eq<;>(rw[Nat.pow_succ]at*;omega)
theorem upN_succ {L d:Nat} (h0:L≠0) (h:d<L.log2):upN L d=upN L (d+1)/2:=by
 unfold upN
 rw[show L.log2-d=(L.log2-(d+1))+1 by omega,Nat.pow_succ,Nat.div_div_eq_div_mul]
theorem abv_kids {d L:Nat} (h0:L≠0) (hd:d≠0) (h:d.log2<L.log2):abv d L=(abv (2*d) L||abv (2*d+1) L)∧(abv (2*d) L&&abv (2*d+1) L)=false:=by
 obtain⟨l1,l2⟩:=log2_two hd
 have e: ∀c:Nat,c.log2=d.log2+1→abv c L=decide (upN L (d.log2+1)=c):=fun c hc=>by
  apply Bool.eq_iff_iff.2
  rw[abv_iff,decide_eq_true_eq,hc]
  unfold upN
  exact⟨fun h=>h.2,fun h'=>⟨by omega,h'⟩⟩
 have ed:abv d L=decide (upN L (d.log2+1)/2=d):=by
  apply Bool.eq_iff_iff.2
  rw[abv_iff,decide_eq_true_eq,←upN_succ h0 h]
  unfold upN
  exact⟨fun h=>h.2,fun h'=>⟨by omega,h'⟩⟩
 rw[e _ l1,e _ l2,ed]
 generalize upN L (d.log2+1)=c
 constructor
 ·apply Bool.eq_iff_iff.2
  simp only[Bool.or_eq_true,decide_eq_true_eq];omega
 ·rw[Bool.and_eq_false_iff,decide_eq_false_iff_not,decide_eq_false_iff_not];omega
theorem abv_leaf {d L:Nat} (h:d.log2=L.log2):abv d L=decide (L=d):=by
 apply Bool.eq_iff_iff.2
 rw[abv_iff,decide_eq_true_eq,h,Nat.sub_self,Nat.pow_zero,Nat.div_one]
 exact⟨fun h=>h.2,fun h=>⟨Nat.le_refl _,h⟩⟩
structure MeetAt (A B m:Nat):Prop where
 ne:m≠0
 ab: ∀Z,Z.log2=A.log2→A≤Z→Z≤B→abv m Z=true
 top: ∀n,abv n A=true→abv n B=true→abv n m=true
 fork:m.log2<A.log2→abv (2*m) A=true∧abv (2*m+1) B=true
theorem meet_ok {A B:Nat} (hA:A≠0) (hlog:B.log2=A.log2) (hle:A≤B):bitsN (A^^^B)≤A.log2∧MeetAt A B (A/2^bitsN (A^^^B)):=by
 have hB:B≠0:=by omega
 have htop:bitsN (A^^^B)≤A.log2:=by
  rw[←agree_bits]
  have h1:=upN_zero hA
  have h2:=upN_zero hB
  unfold upN at h1 h2
  rw[Nat.sub_zero]at h1 h2
  rw[hlog]at h2
  rw[h1,h2]
 have hag:A/2^bitsN (A^^^B)=B/2^bitsN (A^^^B):=agree_bits.2 (Nat.le_refl _)
 have hfk:0<bitsN (A^^^B)→A/2^(bitsN (A^^^B)-1)≠B/2^(bitsN (A^^^B)-1):=fun h e=>by have:=agree_bits.1 e;omega
 have htp: ∀k,A/2^k=B/2^k→bitsN (A^^^B)≤k:=fun k h=>agree_bits.1 h
 refine⟨htop, ?_⟩
 generalize bitsN (A^^^B)=k at*
 have hm0:A/2^k≠0:=div_pos hA htop
 have hml:(A/2^k).log2=A.log2-k:=log2_div hA htop
 refine⟨hm0,fun Z hZ h1 h2=> ?_,fun n h1 h2=> ?_,fun h=> ?_⟩
 ·refine abv_iff.2 ⟨by omega, ?_⟩
  rw[hml,hZ,show A.log2-(A.log2-k)=k by omega]
  have a:=Nat.div_le_div_right (c:=2^k) h1
  have b:=Nat.div_le_div_right (c:=2^k) h2
  omega
 ·obtain⟨p1,p2⟩:=abv_iff.1 h1
  obtain⟨q1,q2⟩:=abv_iff.1 h2
  rw[hlog]at q2
  have:=htp _ (p2.trans q2.symm)
  refine abv_iff.2 ⟨by omega, ?_⟩
  rw[hml,div_div_pow,show k+(A.log2-k-n.log2)=A.log2-n.log2 by omega,p2]
 ·have hk:0<k:=by omega
  have hne:=hfk hk
  have ea:A/2^k=A/2^(k-1)/2:=by rw[Nat.div_div_eq_div_mul,←Nat.pow_succ,show(k-1).succ=k by omega]
  have eb:B/2^k=B/2^(k-1)/2:=by rw[Nat.div_div_eq_div_mul,←Nat.pow_succ,show(k-1).succ=k by omega]
  have hm:=Nat.div_le_div_right (c:=2^(k-1)) hle
  obtain⟨l1,l2⟩:=log2_two hm0
  refine⟨abv_iff.2 ⟨by omega, ?_⟩,abv_iff.2 ⟨by omega, ?_⟩⟩
  ·rw[l1,hml,show A.log2-(A.log2-k+1)=k-1 by omega];omega
  ·rw[l2,hml,hlog,show A.log2-(A.log2-k+1)=k-1 by omega];omega
def cntN (H:Nat) (c:List (Nat×Nat)) (i:Nat):Nat:=c.countP fun s=>hasN H s.1 s.2 i
theorem cnt_app (H:Nat) (c d:List (Nat×Nat)) (i:Nat):cntN H (c++d) i=cntN H c i+cntN H d i:=List.countP_append
theorem has_chain {H n d i:Nat} (hd:d≠0):hasN H n d i=(abv n (leafN H i)&& !abv d (leafN H i)):=by
 unfold hasN
 rw[show(d==0)=false by simpa using hd,Bool.false_or]
theorem has_whole {H n i:Nat}:hasN H n 0 i=abv n (leafN H i):=by unfold hasN;simp
theorem has_split {H a k b i:Nat} (hk:k≠0) (hb:b≠0) (h1:abv a k=true) (h2:abv k b=true):(hasN H a b i).toNat=(hasN H a k i).toNat+(hasN H k b i).toNat:=by
 rw[has_chain hk,has_chain hb,has_chain hb]
 cases e1:abv b (leafN H i)with
 |true=>
  have e2:=abv_trans h2 e1
  rw[e2];simp
 |false=>
  cases e2:abv k (leafN H i)with
  |true=>rw[abv_trans h1 e2];rfl
  |false=>simp
theorem countP_one {α:Type} {p:α→Bool}: ∀ {l:List α} {x:α},l.Nodup→x∈l→p x=true→(∀y∈l,p y=true→y=x)→l.countP p=1:=by
 intro l
 induction l with
 |nil=>intro x _ h;cases h
 |cons y l ih=>
  intro x hn hx hp hu
  obtain⟨n1,n2⟩:=List.nodup_cons.1 hn
  rcases List.mem_cons.1 hx with rfl|hx'
  ·rw[List.countP_cons_of_pos hp]
   have:l.countP p=0:=List.countP_eq_zero.2 fun z hz hpz=>n1 (by rw[←hu z (by simp [hz]) hpz];exact hz)
   omega
  ·have hy: ¬p y=true:=fun h=>n1 (by rw[hu y (by simp) h];exact hx')
   rw[List.countP_cons_of_neg hy]
   exact ih n2 hx' hp fun z hz=>hu z (by simp [hz])
end Go.AM.Seat
