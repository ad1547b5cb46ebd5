import Derived.Test.YthnonmlhgafalaaGreatZSeTab
import Derived.Test.YthnonmlhgafalaaGreatZSeCom
set_option linter.unusedVariables false
set_option linter.unusedSimpArgs false
set_option maxRecDepth 100000
namespace Go.AM.Seat
open Go Go.AM Go.Proofs
def body (f:Func):Code:=f.body.getD .skip
theorem bd {f:Func} (h:f.body.isSome=true):f.body=some (body f):=by
 unfold body
 cases hb:f.body with
 |none=>rw[hb]at h;cases h
 |some c=>rfl
def noL:Lam AV:=fun _ _ _=>none
theorem noLoops {ρ:Type} [Same ρ] {Γ:Orc} {Λ:Lam ρ} {ms:Lay} {c:Code} (h:loopsOf 0 c=[]): ∀p∈loopsOf 0 c,LoopP tb Γ Λ ms p:=by rw[h];intro p hp;cases hp
theorem oneLoop {ρ:Type} [Same ρ] {Γ:Orc} {Λ:Lam ρ} {ms:Lay} {c:Code} {p0:Nat×Code} (h:loopsOf 0 c=[p0]) (h0:LoopP tb Γ Λ ms p0): ∀p∈loopsOf 0 c,LoopP tb Γ Λ ms p:=by
 rw[h];intro p hp;rw[List.mem_singleton.1 hp];exact h0
noncomputable def run (Γ:Orc) (Λ:Lam AV) (live:List (Nat×List (Nat×Dir))) (f:Func) (args:List AV) (ws:List WK):Option AV:=
 aexec tb Γ Λ ⟨f.ntmps,0,live⟩ (body f) 0 (st0 args f.ntmps) (KretW tb f.results.toList ws)
theorem good {Γ:Orc} (hΓ:OrcOk Tryz.prog Γ) {f:FuncId} {fn:Func} (hf:Tryz.prog.funcs[f]? =some fn) (hb:fn.body.isSome=true) (hname:(fn.name== "runtime.NumGoroutine")=false) (Λ:Lam AV) (live:List (Nat×List (Nat×Dir)))
 (hL: ∀p∈loopsOf 0 (body fn),LoopP tb Γ Λ ⟨fn.ntmps,0,live⟩ p) (ks:List AK) (hk:ks.length≤fn.ntmps) (ws:List WK) (g:ADen ks→Bool×AV) (h: ∀x r,WFA ks x→g x=(true,r)→run Γ Λ live fn (encA ks x) ws=some r) (hlo:LoOk Γ fn.ntmps:=by exact lo_none rfl):GoodS Tryz.prog f (.fn ks g):=
 goodS_of ws mixed tbOk hΓ hf (bd hb) hname rfl rfl ⟨fn.ntmps,0,live⟩ rfl Λ hL ks hk g h hlo
def loop1 (f:Func):Nat×Code:=(loopsOf 0 (body f)).headD (0,.skip)
theorem twoLoops {ρ:Type} [Same ρ] {Γ:Orc} {Λ:Lam ρ} {ms:Lay} {c:Code} {p0 p1:Nat×Code} (h:loopsOf 0 c=[p0,p1]) (h0:LoopP tb Γ Λ ms p0) (h1:LoopP tb Γ Λ ms p1): ∀p∈loopsOf 0 c,LoopP tb Γ Λ ms p:=by
 rw[h];intro p hp
 rcases List.mem_cons.1 hp with rfl|hp
 ·exact h0
 ·rw[List.mem_singleton.1 hp];exact h1
theorem wrap64 {n:Int} (h: -9223372036854775808≤n) (h':n≤9223372036854775807):IntKind.i64.wrap n=n:=i64_in n ⟨h,h'⟩
theorem wrapU_nonneg (n:Int):0≤IntKind.u64.wrap n:=by
 have:=(wrap_has .u64 n).1
 simpa [IntKind.min,IntKind.signed]using this
theorem wrapU {n:Int} (h:0≤n) (h':n≤18446744073709551615):IntKind.u64.wrap n=n:=by
 unfold IntKind.wrap;simp [IntKind.signed,IntKind.bits];omega
theorem upLoop {α:Type} {n:Nat} {F:Nat→α→Int→Option AV} {G:Nat→α→Option AV} (h1: ∀fuel a,F (fuel+1) a n=G n a)
 (h2: ∀a (j:Nat),j<n→(∃a',(∀fuel,F (fuel+1) a j=F fuel a' ((j+1:Nat):Int))∧G j a=G (j+1) a')∨(∀fuel,F (fuel+1) a j=G j a)):
 ∀(m j:Nat) (a:α) (out:AV),j+m=n→G j a=some out→ ∃fuel,F fuel a j=some out:=by
 intro m
 induction m with
 |zero=>
  intro j a out hj h
  obtain rfl:j=n:=by omega
  exact⟨1,(h1 0 a).trans h⟩
 |succ m ih=>
  intro j a out hj h
  rcases h2 a j (by omega)with⟨a',g1,g2⟩|g
  ·obtain⟨fuel,hf⟩:=ih (j+1) a' out (by omega) (g2▸h)
   exact⟨fuel+1,(g1 fuel).trans hf⟩
  ·exact⟨1,(g 0).trans h⟩
theorem lt_dec {j n:Nat} (h:j<n):decide ((j:Int)<(n:Int))=true:=by simp;omega
theorem nlt_dec (n:Nat):decide ((n:Int)<(n:Int))=false:=by simp
theorem inB_lt {j n:Nat} (h:j<n):inB (j:Int) n=true:=by simp [inB];omega
noncomputable def runIO (Γ:Orc) (Λ:Lam (AV×List AV)) (g:Nat) (live:List (Nat×List (Nat×Dir))) (f:Func) (args gs:List AV) (p:Nat) (ws:List WK):Option (AV×List AV):=
 aexec tb Γ Λ ⟨f.ntmps,g,live⟩ (body f) 0 (st0 args f.ntmps++gs.map fun o=> .gho o.ov) (KretIO tb f.ntmps p f.results.toList ws)
def noL2:Lam (AV×List AV):=fun _ _ _=>none
theorem noLoops2 {Γ:Orc} {Λ:Lam (AV×List AV)} {ms:Lay} {c:Code} (h:loopsOf 0 c=[]): ∀p∈loopsOf 0 c,LoopP tb Γ Λ ms p:=by rw[h];intro p hp;cases hp
theorem goodIO0 {Γ:Orc} (hΓ:OrcOk Tryz.prog Γ) {f:FuncId} {fn:Func} (hf:Tryz.prog.funcs[f]? =some fn) (hb:fn.body.isSome=true) (Λ:Lam (AV×List AV)) (g:Nat) (live:List (Nat×List (Nat×Dir)))
 (hL: ∀p∈loopsOf 0 (body fn),LoopP tb Γ Λ ⟨fn.ntmps,g,live⟩ p) (args:List AV) (hys:renAs true (fun k=>some (fn.ntmps+k)) args=some args) (hl:args.length≤fn.ntmps) (ws:List WK) {r:AV} {gs':List AV}
 (h:runIO Γ Λ g live fn args [] 0 ws=some (r,gs')) (hlo:LoOk Γ (fn.ntmps+0):=by exact lo_none rfl):GoodIO Tryz.prog f args 0 [] r gs':=
 good_ofIO mixed tbOk hΓ hf (bd hb) rfl rfl args [] 0 hys (hs:=[]) rfl rfl (Nat.zero_le _) hl ⟨fn.ntmps,g,live⟩ rfl (Nat.zero_le _) Λ hL ws h hlo
theorem goodIO1 {Γ:Orc} (hΓ:OrcOk Tryz.prog Γ) {f:FuncId} {fn:Func} (hf:Tryz.prog.funcs[f]? =some fn) (hb:fn.body.isSome=true) (Λ:Lam (AV×List AV)) (g:Nat) (live:List (Nat×List (Nat×Dir)))
 (hL: ∀p∈loopsOf 0 (body fn),LoopP tb Γ Λ ⟨fn.ntmps,g,live⟩ p) (args gs:List AV) (p:Nat) {ys hs:List AV} (hys:renAs true (fun k=>some (fn.ntmps+k)) args=some ys) (hhs:renAs true (fun k=>some (fn.ntmps+k)) gs=some hs)
 (hgo:gs.all AV.isOwner=true) (hp:p≤gs.length) (hl:args.length≤fn.ntmps) (hmg:gs.length≤g) (ws:List WK) {r:AV} {gs':List AV}
 (h:runIO Γ Λ g live fn ys hs p ws=some (r,gs')) (hlo:LoOk Γ (fn.ntmps+p):=by exact lo_none rfl):GoodIO Tryz.prog f args p gs r gs':=
 good_ofIO mixed tbOk hΓ hf (bd hb) rfl rfl args gs p hys hhs hgo hp hl ⟨fn.ntmps,g,live⟩ rfl hmg Λ hL ws h hlo
noncomputable def runG (Γ:Orc) (Λ:Lam AV) (g:Nat) (live:List (Nat×List (Nat×Dir))) (f:Func) (args:List AV) (ws:List WK):Option AV:=
 aexec tb Γ Λ ⟨f.ntmps,g,live⟩ (body f) 0 (st0 args f.ntmps) (KretW tb f.results.toList ws)
theorem goodG {Γ:Orc} (hΓ:OrcOk Tryz.prog Γ) {f:FuncId} {fn:Func} (hf:Tryz.prog.funcs[f]? =some fn) (hb:fn.body.isSome=true) (hname:(fn.name== "runtime.NumGoroutine")=false) (Λ:Lam AV) (G:Nat) (live:List (Nat×List (Nat×Dir)))
 (hL: ∀p∈loopsOf 0 (body fn),LoopP tb Γ Λ ⟨fn.ntmps,G,live⟩ p) (ks:List AK) (hk:ks.length≤fn.ntmps) (ws:List WK) (g:ADen ks→Bool×AV) (h: ∀x r,WFA ks x→g x=(true,r)→runG Γ Λ G live fn (encA ks x) ws=some r) (hlo:LoOk Γ fn.ntmps:=by exact lo_none rfl):GoodS Tryz.prog f (.fn ks g):=
 goodS_of ws mixed tbOk hΓ hf (bd hb) hname rfl rfl ⟨fn.ntmps,G,live⟩ rfl Λ hL ks hk g h hlo
theorem log2_eq {n k:Nat} (h1:2^k≤n) (h2:n<2^(k+1)):n.log2=k:=by
 have h0:n≠0:=by have:=Nat.two_pow_pos k;omega
 have a:n.log2<k+1:=(Nat.log2_lt h0).2 h2
 have b: ¬n.log2<k:=fun h=>by have:=(Nat.log2_lt h0).1 h;omega
 omega
theorem log2_le {n:Nat} (h0:n≠0):2^n.log2≤n:=Nat.log2_self_le h0
theorem lt_log2 {n:Nat}:n<2^(n.log2+1):=Nat.lt_log2_self
theorem log2_div {n k:Nat} (h0:n≠0) (h:k≤n.log2):(n/2^k).log2=n.log2-k:=by
 have e1:2^n.log2=2^(n.log2-k)*2^k:=by rw[←Nat.pow_add];congr 1;omega
 have e2:2^(n.log2+1)=2^(n.log2-k+1)*2^k:=by rw[←Nat.pow_add];congr 1;omega
 apply log2_eq
 ·rw[Nat.le_div_iff_mul_le (Nat.two_pow_pos k),←e1];exact log2_le h0
 ·rw[Nat.div_lt_iff_lt_mul (Nat.two_pow_pos k),←e2];exact lt_log2
theorem div_pos {n k:Nat} (h0:n≠0) (h:k≤n.log2):n/2^k≠0:=by
 have:2^k≤n:=Nat.le_trans (Nat.pow_le_pow_right (by decide) h) (log2_le h0)
 have:0<n/2^k:=Nat.div_pos this (Nat.two_pow_pos k)
 omega
theorem div_div_pow (n a b:Nat):n/2^a/2^b=n/2^(a+b):=by
 rw[Nat.div_div_eq_div_mul,Nat.pow_add]
def leafN (h i:Nat):Nat:=2^h+i
theorem leafN_log2 {h i:Nat} (hi:i<2^h):(leafN h i).log2=h:=log2_eq (by unfold leafN;omega) (by unfold leafN;rw[Nat.pow_succ];omega)
theorem leafN_ne {h i:Nat}:leafN h i≠0:=by have:=Nat.two_pow_pos h;unfold leafN;omega
def okN (h n:Nat):Bool:=decide (1≤h)&&decide (h≤32)&&decide (1≤n)&&decide (n<2^(h+1))
theorem okN_iff {h n:Nat}:okN h n=true↔1≤h∧h≤32∧1≤n∧n<2^(h+1):=by
 simp [okN,and_assoc]
theorem okN_log {h n:Nat} (hn:n≠0):n<2^(h+1)↔n.log2≤h:=by
 rw[←Nat.log2_lt hn];omega
def abv (a b:Nat):Bool:=decide (a.log2≤b.log2)&&(b/2^(b.log2-a.log2)==a)
theorem abv_iff {a b:Nat}:abv a b=true↔a.log2≤b.log2∧b/2^(b.log2-a.log2)=a:=by simp [abv]
def okS (h i j:Nat):Bool:=okN h i&&(j==0||(okN h j&&abv i j&&i != j))
theorem okS_iff {h i j:Nat}:okS h i j=true↔okN h i=true∧(j=0∨(okN h j=true∧abv i j=true∧i≠j)):=by
 simp [okS,and_assoc]
def hasN (h i j k:Nat):Bool:=abv i (leafN h k)&&(j==0|| !abv j (leafN h k))
def shrI (a k:Int):Int:=a.fdiv (2^min k.toNat 64)
def shlI (a k:Int):Int:=IntKind.u64.wrap (a*2^min k.toNat 64)
def lenI (n:Int):Int:=bif decide (n≤0)then 0 else(n.toNat.log2:Int)+1
def lenTab:ByteArray:=⟨((List.range 256).map fun i:Nat=>UInt8.ofNat (lenI (i:Int)).toNat).toArray⟩
def lenR4 (n k:Int):Option AV:=bif inB (IntKind.u8.wrap n) lenTab.size then some (.one (.int .i64 (IntKind.i64.wrap (k+IntKind.i64.wrap (byteAt lenTab (IntKind.u8.wrap n).toNat)))))else none
def lenR3 (n k:Int):Option AV:=bif decide (n≥256)then lenR4 (shrI n 8) (IntKind.i64.wrap (k+8))else lenR4 n k
def lenR2 (n k:Int):Option AV:=bif decide (n≥65536)then lenR3 (shrI n 16) (IntKind.i64.wrap (k+16))else lenR3 n k
def lenR (n:Int):Option AV:=bif decide (n≥4294967296)then lenR2 (shrI n 32) 32 else lenR2 n 0
theorem r119 (n:Int):run (orc []) noL [] F119 (encA [.v U] n) []=lenR n:=by kernel_rfl
theorem lenTab_at:((List.range 256).all fun i:Nat=>decide (byteAt lenTab i=lenI (i:Int)))=true:=by kernel_rfl
theorem lenTab_size:lenTab.size=256:=by kernel_rfl
theorem shr_nat {a:Int} (h:0≤a) {k:Int} (hk:k≤64):shrI a k=((a.toNat/2^k.toNat:Nat):Int):=by
 unfold shrI
 rw[Int.fdiv_eq_ediv_of_nonneg _ (by apply Int.le_of_lt;exact Int.pow_pos (by decide)),Nat.min_eq_left (by omega)]
 obtain⟨n,rfl⟩:=Int.eq_ofNat_of_zero_le h
 simp
theorem lenI_nat {n:Nat} (h:n≠0):lenI n=(n.log2:Int)+1:=by
 unfold lenI
 have:decide ((n:Int)≤0)=false:=by simp;omega
 rw[this];rfl
theorem lenI_div {n k:Nat} (h:2^k≤n):lenI n=(k:Int)+lenI (n/2^k:Nat):=by
 have h0:n≠0:=by have:=Nat.two_pow_pos k;omega
 have hk:k≤n.log2:=by
  rcases Nat.lt_or_ge n.log2 k with h1|h1
  ·have:=(Nat.log2_lt h0).1 h1;omega
  ·exact h1
 rw[lenI_nat h0,lenI_nat (div_pos h0 hk),log2_div h0 hk];omega
theorem lenI_bd {n:Nat} {k:Nat} (h:n<2^k):0≤lenI n∧lenI n≤k:=by
 rcases Nat.eq_zero_or_pos n with rfl|h0
 ·exact⟨by decide,by show(0:Int)≤k;omega⟩
 ·rw[lenI_nat (by omega)]
  have:=(Nat.log2_lt (show n≠0 by omega)).2 h
  omega
theorem lenR4_ok {n:Nat} {k:Int} (hn:n<256) (h0:0≤k) (h1:k≤64):lenR4 n k=some (.one (.int .i64 (k+lenI n))):=by
 have hw:IntKind.u8.wrap (n:Int)=n:=by unfold IntKind.wrap;simp [IntKind.signed,IntKind.bits];omega
 have ht:=List.all_eq_true.1 lenTab_at n (List.mem_range.2 hn)
 have hb:=lenI_bd (k:=8) (n:=n) hn
 unfold lenR4
 rw[hw,lenTab_size,inB_lt hn,Int.toNat_natCast,of_decide_eq_true ht,wrap64 (n:=lenI n) (by omega) (by omega),wrap64 (by omega) (by omega)]
 rfl
theorem lenR3_ok {n:Nat} {k:Int} (hn:n<2^16) (h0:0≤k) (h1:k≤48):lenR3 n k=some (.one (.int .i64 (k+lenI n))):=by
 unfold lenR3
 cases h:decide ((n:Int)≥256)with
 |true=>
  have h:2^8≤n:=by have:=of_decide_eq_true h;omega
  rw[shr_nat (by omega) (by decide),wrap64 (by omega) (by omega),lenI_div h]
  exact(lenR4_ok (k:=k+8) (n:=n/2^8) (by omega) (by omega) (by omega)).trans (by rw[Int.add_assoc];rfl)
 |false=>exact lenR4_ok (by have:=of_decide_eq_false h;omega) h0 (by omega)
theorem lenR2_ok {n:Nat} {k:Int} (hn:n<2^32) (h0:0≤k) (h1:k≤32):lenR2 n k=some (.one (.int .i64 (k+lenI n))):=by
 unfold lenR2
 cases h:decide ((n:Int)≥65536)with
 |true=>
  have h:2^16≤n:=by have:=of_decide_eq_true h;omega
  rw[shr_nat (by omega) (by decide),wrap64 (by omega) (by omega),lenI_div h]
  exact(lenR3_ok (k:=k+16) (n:=n/2^16) (by omega) (by omega) (by omega)).trans (by rw[Int.add_assoc];rfl)
 |false=>exact lenR3_ok (by have:=of_decide_eq_false h;omega) h0 (by omega)
theorem lenR_ok {n:Nat} (hn:n<2^64):lenR n=some (.one (.int .i64 (lenI n))):=by
 unfold lenR
 cases h:decide ((n:Int)≥4294967296)with
 |true=>
  have h:2^32≤n:=by have:=of_decide_eq_true h;omega
  rw[shr_nat (by omega) (by decide),lenI_div h]
  exact lenR2_ok (k:=32) (n:=n/2^32) (by omega) (by omega) (by omega)
 |false=>exact(lenR2_ok (n:=n) (k:=0) (by have:=of_decide_eq_false h;omega) (by decide) (by decide)).trans (by rw[Int.zero_add])
theorem hasU {n:Int} (h:IntKind.u64.has n):0≤n∧n.toNat<2^64∧n=(n.toNat:Int):=by
 have h1:0≤n:=h.1
 have h2:n≤18446744073709551615:=h.2
 omega
def s119:Sp:= .fn [.v U] fun n=>(true,.one (.int .i64 (lenI n)))
theorem g119:GoodS Tryz.prog N119 s119:=by
 refine good (.nil _) H119 rfl (by kernel_rfl) noL [] (noLoops (by kernel_rfl)) [.v U] (by decide) [] _ fun n r hw h=> ?_
 cases h
 obtain⟨h0,h1,h2⟩:=hasU hw
 rw[r119,h2]
 exact lenR_ok h1
def highB (h:Int):Bool:=bif decide (h≥1)then decide (h≤32)else false
theorem r360 (h:Int):run (orc []) noL [] F360 (encA [.v I] h) []=some (.one (.bool (highB h))):=by kernel_rfl
def s360:Sp:= .fn [.v I] fun h=>(true,.one (.bool (highB h)))
theorem g360:GoodS Tryz.prog N360 s360:=by
 refine good (.nil _) H360 rfl (by kernel_rfl) noL [] (noLoops (by kernel_rfl)) [.v I] (by decide) [] _ fun h r hw e=> ?_
 cases e
 exact r360 h
def depI (n:Int):Int:=lenI n-1
theorem r330 (n:Int):run (orc [(N119,s119)]) noL [] F330 (encA [.v U] n) []=some (.one (.int .i64 (IntKind.i64.wrap (lenI n-1)))):=by kernel_rfl
theorem depI_bd {n:Int} (h:IntKind.u64.has n): -1≤depI n∧depI n≤63:=by
 obtain⟨h0,h1,h2⟩:=hasU h
 have:=lenI_bd h1
 rw[←h2]at this
 unfold depI;omega
def s330:Sp:= .fn [.v U] fun n=>(true,.one (.int .i64 (depI n)))
theorem g330:GoodS Tryz.prog N330 s330:=by
 refine good (.cons g119 (.nil _)) H330 rfl (by kernel_rfl) noL [] (noLoops (by kernel_rfl)) [.v U] (by decide) [] _ fun n r hw e=> ?_
 cases e
 have:=depI_bd hw
 rw[r330,wrap64 (by unfold depI at this;omega) (by unfold depI at this;omega)]
 rfl
def badN (h n:Int):Bool:=bif bif !highB h then true else decide (n<1)then true else decide (depI n>h)
def chkI (h n:Int):Int:=bif badN h n then 1 else 0
theorem r366 (h n:Int):run (orc [(N360,s360),(N330,s330)]) noL [] F366 (encA [.v I,.v U] (h,n)) []=bif badN h n then some (.one (.int .i64 1))else some (.one (.int .i64 0)):=by kernel_rfl
def s366:Sp:= .fn [.v I,.v U] fun x=>(true,.one (.int .i64 (chkI x.1 x.2)))
theorem g366:GoodS Tryz.prog N366 s366:=by
 refine good (.cons g360 (.cons g330 (.nil _))) H366 rfl (by kernel_rfl) noL [] (noLoops (by kernel_rfl)) [.v I,.v U] (by decide) [] _ fun x r hw e=> ?_
 cases e
 rw[r366];unfold chkI
 cases badN x.1 x.2<;>rfl
def both (h a b:Int):Bool:=bif chkI h a != 0 then true else chkI h b != 0
def bothI (h a b:Int):Int:=bif both h a b then 1 else 0
theorem r328 (h a b:Int):run (orc [(N366,s366)]) noL [] F328 (encA [.v I,.v U,.v U] (h,a,b)) []=bif both h a b then some (.one (.int .i64 1))else some (.one (.int .i64 0)):=by kernel_rfl
def s328:Sp:= .fn [.v I,.v U,.v U] fun x=>(true,.one (.int .i64 (bothI x.1 x.2.1 x.2.2)))
theorem g328:GoodS Tryz.prog N328 s328:=by
 refine good (.cons g366 (.nil _)) H328 rfl (by kernel_rfl) noL [] (noLoops (by kernel_rfl)) [.v I,.v U,.v U] (by decide) [] _ fun x r hw e=> ?_
 cases e
 rw[r328];unfold bothI
 cases both x.1 x.2.1 x.2.2 <;>rfl
def re2 (v e:Int):AV:= .tup [(false,[.int .u64 v]),(false,[.int .i64 e])]
def ri2 (v e:Int):AV:= .tup [(false,[.int .i64 v]),(false,[.int .i64 e])]
def rb2 (v:Bool) (e:Int):AV:= .tup [(false,[.bool v]),(false,[.int .i64 e])]
def orU (a b:Int):Int:=IntKind.u64.wrap (BitVec.ofInt 64 a|||BitVec.ofInt 64 b).toNat
def leafI (h i:Int):Int×Int:=bif !highB h then(0,1)else bif decide (shrI i h>0)then(0,4)else(orU (shlI 1 h) i,0)
theorem r323 (h i:Int):run (orc [(N360,s360)]) noL [] F323 (encA [.v I,.v U] (h,i)) []=
 bif !highB h then some (re2 0 1)else bif decide (0≤h)then bif decide (shrI i h>0)then some (re2 0 4)else bif decide (0≤h)then some (re2 (orU (shlI 1 h) i) 0)else none else none:=by kernel_rfl
theorem highB_iff {h:Int}:highB h=true↔1≤h∧h≤32:=by
 unfold highB
 cases e:decide (h≥1)with
 |true=>have:=of_decide_eq_true e;simp;omega
 |false=>have:=of_decide_eq_false e;simp;omega
theorem high0 {h:Int} (hh:highB h=true):decide (0≤h)=true:=by have:=highB_iff.1 hh;exact decide_eq_true (by omega)
def s323:Sp:= .fn [.v I,.v U] fun x=>(true,re2 (leafI x.1 x.2).1 (leafI x.1 x.2).2)
theorem g323:GoodS Tryz.prog N323 s323:=by
 refine good (.cons g360 (.nil _)) H323 rfl (by kernel_rfl) noL [] (noLoops (by kernel_rfl)) [.v I,.v U] (by decide) [] _ fun x r hw e=> ?_
 obtain⟨h,i⟩:=x
 cases e
 rw[r323];unfold leafI
 cases hh:highB h with
 |false=>rfl
 |true=>
  have h0:=high0 hh
  simp only[h0,Bool.not_true,cond_true,cond_false]
  cases decide (shrI i h>0)<;>rfl
def depthI (h n:Int):Int×Int:=bif chkI h n != 0 then(0,chkI h n)else(depI n,0)
theorem r362 (h n:Int):run (orc [(N366,s366),(N330,s330)]) noL [] F362 (encA [.v I,.v U] (h,n)) []=bif chkI h n != 0 then some (ri2 0 (chkI h n))else some (ri2 (depI n) 0):=by kernel_rfl
def s362:Sp:= .fn [.v I,.v U] fun x=>(true,ri2 (depthI x.1 x.2).1 (depthI x.1 x.2).2)
theorem g362:GoodS Tryz.prog N362 s362:=by
 refine good (.cons g366 (.cons g330 (.nil _))) H362 rfl (by kernel_rfl) noL [] (noLoops (by kernel_rfl)) [.v I,.v U] (by decide) [] _ fun x r hw e=> ?_
 obtain⟨h,n⟩:=x
 cases e
 rw[r362];unfold depthI
 cases chkI h n != 0<;>rfl
def outUp (n k:Int):Bool:=bif decide (k<0)then true else decide (k>depI n)
def upI (h n k:Int):Int×Int:=bif chkI h n != 0 then(0,chkI h n)else bif outUp n k then(0,4)else(shrI n (depI n-k),0)
theorem r363 (h n k:Int):run (orc [(N366,s366),(N330,s330)]) noL [] F363 (encA [.v I,.v U,.v I] (h,n,k)) []=
 bif chkI h n != 0 then some (re2 0 (chkI h n))else bif outUp n k then some (re2 0 4)else bif decide (0≤IntKind.i64.wrap (depI n-k))then some (re2 (shrI n (IntKind.i64.wrap (depI n-k))) 0)else none:=by kernel_rfl
theorem outUp_false {n k:Int} (hw:IntKind.u64.has n) (ho:outUp n k=false):0≤k∧k≤depI n∧IntKind.i64.wrap (depI n-k)=depI n-k∧decide (0≤depI n-k)=true:=by
 have hd:=depI_bd hw
 unfold outUp at ho
 cases h1:decide (k<0)with
 |true=>rw[h1]at ho;cases ho
 |false=>
  rw[h1]at ho
  have h1:=of_decide_eq_false h1
  have h2:=of_decide_eq_false ho
  exact⟨by omega,by omega,wrap64 (by omega) (by omega),decide_eq_true (by omega)⟩
def s363:Sp:= .fn [.v I,.v U,.v I] fun x=>(true,re2 (upI x.1 x.2.1 x.2.2).1 (upI x.1 x.2.1 x.2.2).2)
theorem g363:GoodS Tryz.prog N363 s363:=by
 refine good (.cons g366 (.cons g330 (.nil _))) H363 rfl (by kernel_rfl) noL [] (noLoops (by kernel_rfl)) [.v I,.v U,.v I] (by decide) [] _ fun x r hw e=> ?_
 obtain⟨h,n,k⟩:=x
 cases e
 rw[r363];unfold upI
 cases chkI h n != 0 with
 |true=>rfl
 |false=>
  cases ho:outUp n k with
  |true=>rfl
  |false=>
   obtain⟨_,_,e1,h0⟩:=outUp_false hw.2.1 ho
   rw[e1,h0];rfl
def aboveB (a b:Int):Bool:=bif decide (depI a≤depI b)then shrI b (depI b-depI a)==a else false
theorem r329 (a b:Int):run (orc [(N330,s330)]) noL [] F329 (encA [.v U,.v U] (a,b)) []=
 bif decide (0≤IntKind.i64.wrap (depI b-depI a))|| !boolBeq (decide (depI a≤depI b)) true then
  some (.one (.bool (bif decide (depI a≤depI b)then shrI b (IntKind.i64.wrap (depI b-depI a))==a else false)))else none:=by kernel_rfl
def s329:Sp:= .fn [.v U,.v U] fun x=>(true,.one (.bool (aboveB x.1 x.2)))
theorem g329:GoodS Tryz.prog N329 s329:=by
 refine good (.cons g330 (.nil _)) H329 rfl (by kernel_rfl) noL [] (noLoops (by kernel_rfl)) [.v U,.v U] (by decide) [] _ fun x r hw e=> ?_
 obtain⟨a,b⟩:=x
 cases e
 have ha:=depI_bd (n:=a) hw.1
 have hb:=depI_bd (n:=b) hw.2
 have e1:IntKind.i64.wrap (depI b-depI a)=depI b-depI a:=wrap64 (by omega) (by omega)
 rw[r329,e1];unfold aboveB
 cases h:decide (depI a≤depI b)with
 |false=>cases decide (0≤depI b-depI a)<;>rfl
 |true=>
  have h:=of_decide_eq_true h
  have h0:decide (0≤depI b-depI a)=true:=decide_eq_true (by omega)
  rw[h0];rfl
def aboveI (h a b:Int):Bool×Int:=bif bothI h a b != 0 then(false,bothI h a b)else(aboveB a b,0)
theorem r375 (h a b:Int):run (orc [(N328,s328),(N329,s329)]) noL [] F375 (encA [.v I,.v U,.v U] (h,a,b)) []=bif bothI h a b != 0 then some (rb2 false (bothI h a b))else some (rb2 (aboveB a b) 0):=by kernel_rfl
def s375:Sp:= .fn [.v I,.v U,.v U] fun x=>(true,rb2 (aboveI x.1 x.2.1 x.2.2).1 (aboveI x.1 x.2.1 x.2.2).2)
theorem g375:GoodS Tryz.prog N375 s375:=by
 refine good (.cons g328 (.cons g329 (.nil _))) H375 rfl (by kernel_rfl) noL [] (noLoops (by kernel_rfl)) [.v I,.v U,.v U] (by decide) [] _ fun x r hw e=> ?_
 obtain⟨h,a,b⟩:=x
 cases e
 rw[r375];unfold aboveI
 cases bothI h a b != 0<;>rfl
@[reducible] def Subset:Ty:= .pair U U
theorem bad_false {h n:Int} (hb:badN h n=false):highB h=true∧1≤n∧depI n≤h:=by
 unfold badN at hb
 cases h1:highB h with
 |false=>rw[h1]at hb;cases hb
 |true=>
  rw[h1]at hb
  cases h2:decide (n<1)with
  |true=>rw[h2]at hb;cases hb
  |false=>
   rw[h2]at hb
   have h2:=of_decide_eq_false h2
   have h3:=of_decide_eq_false hb
   exact⟨rfl,by omega,by omega⟩
theorem chk_zero {h n:Int} (hc:(chkI h n != 0)=false):highB h=true∧1≤n∧depI n≤h:=by
 refine bad_false ?_
 cases hb:badN h n with
 |false=>rfl
 |true=>unfold chkI at hc;rw[hb]at hc;cases hc
theorem dep_wrap {h n:Int} (hw:IntKind.u64.has n) (hc:(chkI h n != 0)=false):IntKind.i64.wrap (h-depI n)=h-depI n∧decide (0≤h-depI n)=true∧decide (0≤h)=true:=by
 obtain⟨h1,h2,h3⟩:=chk_zero hc
 have h4:=highB_iff.1 h1
 have h5:=depI_bd hw
 exact⟨wrap64 (by omega) (by omega),decide_eq_true (by omega),decide_eq_true (by omega)⟩
def rs2 (p:Int×Int) (e:Int):AV:= .tup [(true,[.int .u64 p.1,.int .u64 p.2]),(false,[.int .i64 e])]
def lowI (h n d:Int):Int:=IntKind.u64.wrap (shlI n d-shlI 1 h)
def topI (h n d:Int):Int:=IntKind.u64.wrap (IntKind.u64.wrap (lowI h n d+shlI 1 d)-1)
def leavesI (h n:Int):(Int×Int)×Int:=bif chkI h n != 0 then((0,0),chkI h n)else((lowI h n (h-depI n),topI h n (h-depI n)),0)
theorem r368 (h n:Int):run (orc [(N366,s366),(N330,s330)]) noL [] F368 (encA [.v I,.v U] (h,n)) []=
 bif chkI h n != 0 then some (rs2 (0,0) (chkI h n))else
 bif decide (0≤IntKind.i64.wrap (h-depI n))then bif decide (0≤h)then bif decide (0≤IntKind.i64.wrap (h-depI n))then
  some (rs2 (lowI h n (IntKind.i64.wrap (h-depI n)),topI h n (IntKind.i64.wrap (h-depI n))) 0)else none else none else none:=by kernel_rfl
def s368:Sp:= .fn [.v I,.v U] fun x=>(true,rs2 (leavesI x.1 x.2).1 (leavesI x.1 x.2).2)
theorem g368:GoodS Tryz.prog N368 s368:=by
 refine good (.cons g366 (.cons g330 (.nil _))) H368 rfl (by kernel_rfl) noL [] (noLoops (by kernel_rfl)) [.v I,.v U] (by decide) [] _ fun x r hw e=> ?_
 obtain⟨h,n⟩:=x
 cases e
 rw[r368];unfold leavesI
 cases hc:chkI h n != 0 with
 |true=>rfl
 |false=>
  obtain⟨e1,e2,e3⟩:=dep_wrap hw.2 hc
  rw[e1,e2,e3];rfl
def xorI (a b:Int):Int:=IntKind.u64.wrap (BitVec.ofInt 64 a^^^BitVec.ofInt 64 b).toNat
def meetF (x y:Int):Option AV:=bif decide (0≤lenI (xorI x y))then some (re2 (shrI x (lenI (xorI x y))) 0)else none
def meetP (a b m:Int):Option AV:=bif decide (0≤IntKind.i64.wrap (depI a-m))then bif decide (0≤IntKind.i64.wrap (depI b-m))then meetF (shrI a (IntKind.i64.wrap (depI a-m))) (shrI b (IntKind.i64.wrap (depI b-m)))else none else none
def meetQ (a b m:Int):Option AV:=bif decide (0≤IntKind.i64.wrap (depI b-m))then bif decide (0≤IntKind.i64.wrap (depI a-m))then meetF (shrI a (IntKind.i64.wrap (depI a-m))) (shrI b (IntKind.i64.wrap (depI b-m)))else none else none
theorem r361 (h a b:Int):run (orc [(N328,s328),(N330,s330),(N119,s119)]) noL [] F361 (encA [.v I,.v U,.v U] (h,a,b)) []=
 bif bothI h a b != 0 then some (re2 0 (bothI h a b))else allSame [meetP a b (minI (depI a) (depI b)),meetP a b (minI (depI a) (depI b)),meetP a b (minI (depI a) (depI b)),meetP a b (minI (depI a) (depI b)),meetP a b (minI (depI a) (depI b)),meetP a b (minI (depI a) (depI b)),meetP a b (minI (depI a) (depI b)),meetP a b (minI (depI a) (depI b)),meetQ a b (minI (depI a) (depI b)),meetP a b (minI (depI a) (depI b)),meetP a b (minI (depI a) (depI b)),meetP a b (minI (depI a) (depI b)),meetP a b (minI (depI a) (depI b)),meetP a b (minI (depI a) (depI b)),meetQ a b (minI (depI a) (depI b)),meetP a b (minI (depI a) (depI b)),meetP a b (minI (depI a) (depI b)),meetQ a b (minI (depI a) (depI b)),meetQ a b (minI (depI a) (depI b))]:=by kernel_rfl
theorem minI_le (a b:Int):minI a b≤a∧minI a b≤b∧(minI a b=a∨minI a b=b):=by
 unfold minI;split<;>omega
theorem lenI_nonneg (n:Int):0≤lenI n:=by
 unfold lenI
 cases decide (n≤0)with
 |true=>exact Int.le_refl 0
 |false=>show(0:Int)≤(n.toNat.log2:Int)+1;omega
def meetI (h a b:Int):Int×Int:=bif bothI h a b != 0 then(0,bothI h a b)else
 (shrI (shrI a (depI a-minI (depI a) (depI b))) (lenI (xorI (shrI a (depI a-minI (depI a) (depI b))) (shrI b (depI b-minI (depI a) (depI b))))),0)
def s361:Sp:= .fn [.v I,.v U,.v U] fun x=>(true,re2 (meetI x.1 x.2.1 x.2.2).1 (meetI x.1 x.2.1 x.2.2).2)
theorem meet_guard {a b:Int} (ha:IntKind.u64.has a) (hb:IntKind.u64.has b):IntKind.i64.wrap (depI a-minI (depI a) (depI b))=depI a-minI (depI a) (depI b)∧
 IntKind.i64.wrap (depI b-minI (depI a) (depI b))=depI b-minI (depI a) (depI b)∧decide (0≤depI a-minI (depI a) (depI b))=true∧decide (0≤depI b-minI (depI a) (depI b))=true:=by
 have h1:=depI_bd ha
 have h2:=depI_bd hb
 obtain⟨m1,m2,m3⟩:=minI_le (depI a) (depI b)
 generalize minI (depI a) (depI b)=m at*
 exact⟨wrap64 (by omega) (by omega),wrap64 (by omega) (by omega),decide_eq_true (by omega),decide_eq_true (by omega)⟩
theorem g361:GoodS Tryz.prog N361 s361:=by
 refine good (.cons g328 (.cons g330 (.cons g119 (.nil _)))) H361 rfl (by kernel_rfl) noL [] (noLoops (by kernel_rfl)) [.v I,.v U,.v U] (by decide) [] _ fun x r hw e=> ?_
 obtain⟨h,a,b⟩:=x
 cases e
 obtain⟨e1,e2,e3,e4⟩:=meet_guard (a:=a) (b:=b) hw.2.1 hw.2.2
 rw[r361]
 unfold meetP meetQ meetF meetI
 rw[e1,e2,e3,e4,decide_eq_true (lenI_nonneg _)]
 cases bothI h a b != 0 with
 |true=>rfl
 |false=>exact allSame_rep _ 18
def subE (h:Int) (s:Subset.D):Int:=bif s.2==0 then chkI h s.1 else bif (bif bif (aboveI h s.1 s.2).2 != 0 then true else !(aboveI h s.1 s.2).1 then true else s.1==s.2)then 1 else 0
theorem r341 (h:Int) (s:Subset.D):run (orc [(N366,s366),(N375,s375)]) noL [] F341 (encA [.v I,.v Subset] (h,s)) []=
 bif s.2==0 then some (.one (.int .i64 (chkI h s.1)))else bif (bif bif (aboveI h s.1 s.2).2 != 0 then true else !(aboveI h s.1 s.2).1 then true else s.1==s.2)then some (.one (.int .i64 1))else some (.one (.int .i64 0)):=by kernel_rfl
def s341:Sp:= .fn [.v I,.v Subset] fun x=>(true,.one (.int .i64 (subE x.1 x.2)))
theorem g341:GoodS Tryz.prog N341 s341:=by
 refine good (.cons g366 (.cons g375 (.nil _))) H341 rfl (by kernel_rfl) noL [] (noLoops (by kernel_rfl)) [.v I,.v Subset] (by decide) [] _ fun x r hw e=> ?_
 obtain⟨h,s⟩:=x
 cases e
 rw[r341];unfold subE
 cases s.2==0 with
 |true=>rfl
 |false=>cases (bif bif (aboveI h s.1 s.2).2 != 0 then true else !(aboveI h s.1 s.2).1 then true else s.1==s.2)<;>rfl
def bothS (h:Int) (s:Subset.D):(Int×Int)×(Int×Int)×Int:=bif subE h s != 0 then((0,0),(0,0),subE h s)else
 bif (bif (leavesI h s.1).2==0 then s.2 != 0 else false)then((leavesI h s.1).1,(leavesI h s.2).1,(leavesI h s.2).2)else((leavesI h s.1).1,(0,0),(leavesI h s.1).2)
def within (x:Int×Int) (i:Int):Bool:=bif decide (x.1≤i)then decide (i≤x.2)else false
theorem r401 (h i:Int):run (orc [(N323,s323)]) noL [] F401 (encA [.v I,.v U] (h,i)) []=some (.one (.bool ((leafI h i).2==0))):=by kernel_rfl
def s401:Sp:= .fn [.v I,.v U] fun x=>(true,.one (.bool ((leafI x.1 x.2).2==0)))
theorem g401:GoodS Tryz.prog N401 s401:=by
 refine good (.cons g323 (.nil _)) H401 rfl (by kernel_rfl) noL [] (noLoops (by kernel_rfl)) [.v I,.v U] (by decide) [] _ fun x r hw e=> ?_
 cases e
 exact r401 x.1 x.2
def Γ400:Orc:=orc [(N366,s366),(N401,s401)]
def lchk (h:Int):Int:=bif chkI h 1 != 0 then 1 else 0
theorem r423 (x:Int):run (orc []) noL [] F423 (encA [.v U] x) []=some (.one (.bool (x != x))):=by kernel_rfl
def s423:Sp:= .fn [.v U] fun x=>(true,.one (.bool false))
theorem g423:GoodS Tryz.prog N423 s423:=by
 refine good (.nil _) H423 rfl (by kernel_rfl) noL [] (noLoops (by kernel_rfl)) [.v U] (by decide) [] _ fun x r hw e=> ?_
 cases e
 rw[r423];simp
def rif (k:Int) (b:Bool) (e:Int):AV:= .tup [(false,[.int .i64 k]),(false,[.bool b]),(false,[.int .i64 e])]
def noLeaf (h i:Int):Bool:=bif lchk h != 0 then true else !((leafI h i).2==0)
def badH (h:Int) (s:Subset.D) (i:Int):Bool:=bif (bothS h s).2.2 != 0 then true else(bif noLeaf h i then 1 else 0:Int) != 0
def inS (h:Int) (s:Subset.D) (i:Int):Bool:=bif within (bothS h s).1 i then bif s.2==0 then true else !within (bothS h s).2.1 i else false
def hasI (h:Int) (s:Subset.D) (i:Int):Bool×Int:=bif badH h s i then(false,1)else(inS h s i,0)
abbrev live399:List (Nat×Dir):=[(0,.keep),(5,.keep)]
def stepK (h:Int) (K:Int→Option AV):Option AV:=
 bif decide (1<h)then bif decide (4<h)then bif decide (9<h)then bif decide (16<h)then bif decide (25<h)then bif decide (36<h)then none else K 6 else K 5 else K 4 else K 3 else K 2 else K 1
def Λ399:Lam AV:=fun cur vs K=>
 match cur,vs with
 |0,[.one (.int .i64 h),.one (.int .i64 1)]=>stepK h fun n=>K (.exit 0) [.one (.int .i64 h),.one (.int .i64 n)]
 |_,_=>none
theorem loop399:LoopP tb (orc [(N366,s366)]) Λ399 ⟨19,0,[(0,live399)]⟩ (loop1 F399):=by
 intro vs K out h
 have hcur:(loop1 F399).1=0:=by kernel_rfl
 rw[hcur]at h⊢
 unfold Λ399 at h
 split at h
 ·rename_i x _
  refine⟨6, ?_⟩
  have e:loopN (aexec tb (orc [(N366,s366)]) Λ399 ⟨19,0,[(0,live399)]⟩ (loop1 F399).2 0) 19 0 live399 K 6 [.one (.int .i64 x),.one (.int .i64 1)]=
   stepK x fun n=>K (.exit 0) [.one (.int .i64 x),.one (.int .i64 n)]:=by kernel_rfl
  exact e.trans h
 ·cases h
def stepN (h:Int):Int:=bif decide (1<h)then bif decide (4<h)then bif decide (9<h)then bif decide (16<h)then bif decide (25<h)then 6 else 5 else 4 else 3 else 2 else 1
def stepI (h:Int):Int×Int:=bif chkI h 1 != 0 then(0,chkI h 1)else(stepN h,0)
theorem r399 (h:Int):run (orc [(N366,s366)]) Λ399 [(0,live399)] F399 (encA [.v I] h) []=bif chkI h 1 != 0 then some (ri2 0 (chkI h 1))else stepK h fun n=>some (ri2 n 0):=by kernel_rfl
def s399:Sp:= .fn [.v I] fun h=>(true,ri2 (stepI h).1 (stepI h).2)
theorem stepK_eq {h:Int} (h1:h≤32) (K:Int→Option AV):stepK h K=K (stepN h):=by
 unfold stepK stepN
 rw[decide_eq_false (show ¬36<h by omega)]
 cases decide (1<h)<;>cases decide (4<h)<;>cases decide (9<h)<;>cases decide (16<h)<;>cases decide (25<h)<;>rfl
theorem g399:GoodS Tryz.prog N399 s399:=by
 refine good (.cons g366 (.nil _)) H399 rfl (by kernel_rfl) Λ399 [(0,live399)] (oneLoop (p0:=loop1 F399) (by kernel_rfl) loop399) [.v I] (by decide) [] _ fun h r hw e=> ?_
 cases e
 rw[r399];unfold stepI
 cases hc:chkI h 1 != 0 with
 |true=>rfl
 |false=>
  have:=highB_iff.1 (chk_zero hc).1
  simp only[cond_false]
  exact stepK_eq this.2 _
theorem stepN_pos (h:Int):1≤stepN h∧stepN h≤6:=by
 unfold stepN
 cases decide (1<h)<;>cases decide (4<h)<;>cases decide (9<h)<;>cases decide (16<h)<;>cases decide (25<h)<;>decide
noncomputable def dpA (b:Bool) (i j n h e:Int):Option AV:=
 allSame (List.replicate 3 (some (.tup [(false,[.int .i64 i]),(false,[.int .i64 j]),(false,[.int .i64 (minI (IntKind.i64.wrap (IntKind.i64.wrap (IntKind.i64.wrap (i.tdiv n)+1)*n)) h)]),(false,[.bool b]),(false,[.int .i64 e])])))
noncomputable def dpR (i j n h e:Int):Option AV:=bif !decide (n=0)then bif !decide (n=0)then bif i.tmod n==0 then dpA true i j n h e else dpA (i==h) i j n h e else none else none
theorem r365 (h:Int) (s:Subset.D):run (orc [(N399,s399),(N362,s362)]) noL [] F365 (encA [.v I,.v Subset] (h,s)) []=
 bif (stepI h).2 != 0 then some (.tup [(false,[.int .i64 0]),(false,[.int .i64 0]),(false,[.int .i64 0]),(false,[.bool false]),(false,[.int .i64 (stepI h).2])])else
 bif (bif (depthI h s.1).2==0 then s.2 != 0 else false)then dpR (depthI h s.1).1 (depthI h s.2).1 (stepI h).1 h (depthI h s.2).2 else dpR (depthI h s.1).1 0 (stepI h).1 h (depthI h s.1).2:=by kernel_rfl
def nxI (i n h:Int):Int:=minI (IntKind.i64.wrap (IntKind.i64.wrap (IntKind.i64.wrap (i.tdiv n)+1)*n)) h
def spB (i n h:Int):Bool:=bif i.tmod n==0 then true else i==h
def rd5 (i j x:Int) (b:Bool) (e:Int):AV:= .tup [(false,[.int .i64 i]),(false,[.int .i64 j]),(false,[.int .i64 x]),(false,[.bool b]),(false,[.int .i64 e])]
def depB (h:Int) (s:Subset.D):Bool:=bif (depthI h s.1).2==0 then s.2 != 0 else false
def depJ (h:Int) (s:Subset.D):Int:=bif depB h s then(depthI h s.2).1 else 0
def depE (h:Int) (s:Subset.D):Int:=bif depB h s then(depthI h s.2).2 else(depthI h s.1).2
def depsV (h:Int) (s:Subset.D):AV:=bif (stepI h).2 != 0 then rd5 0 0 0 false (stepI h).2 else
 rd5 (depthI h s.1).1 (depJ h s) (nxI (depthI h s.1).1 (stepI h).1 h) (spB (depthI h s.1).1 (stepI h).1 h) (depE h s)
def s365:Sp:= .fn [.v I,.v Subset] fun x=>(true,depsV x.1 x.2)
theorem dpR_eq {i j n h e:Int} (hn:n≠0):dpR i j n h e=some (rd5 i j (nxI i n h) (spB i n h) e):=by
 unfold dpR dpA
 rw[decide_eq_false hn]
 unfold spB
 cases i.tmod n==0 with
 |true=>exact allSame_rep _ 2
 |false=>exact allSame_rep _ 2
theorem stepI_ok {h:Int} (he:((stepI h).2 != 0)=false):(stepI h).1=stepN h∧(chkI h 1 != 0)=false:=by
 unfold stepI at he⊢
 cases hc:chkI h 1 != 0 with
 |true=>rw[hc]at he;simp only[cond_true]at he;rw[hc]at he;cases he
 |false=>exact⟨rfl,rfl⟩
theorem stepI_ne {h:Int} (he:((stepI h).2 != 0)=false):(stepI h).1≠0:=by
 rw[(stepI_ok he).1]
 have:=stepN_pos h
 omega
theorem g365:GoodS Tryz.prog N365 s365:=by
 refine good (.cons g399 (.cons g362 (.nil _))) H365 rfl (by kernel_rfl) noL [] (noLoops (by kernel_rfl)) [.v I,.v Subset] (by decide) [] _ fun x r hw e=> ?_
 obtain⟨h,s⟩:=x
 cases e
 rw[r365]
 show _=some (depsV h s)
 unfold depsV depJ depE
 cases hs:(stepI h).2 != 0 with
 |true=>rfl
 |false=>
  rw[dpR_eq (stepI_ne hs),dpR_eq (stepI_ne hs)]
  show(bif depB h s then _ else _)=_
  cases depB h s<;>rfl
def useB (h:Int) (s:Subset.D):Bool:=bif (bif (stepI h).2 != 0 then(stepI h).2 else depE h s)==0 then(bif (bif (stepI h).2 != 0 then false else spB (depthI h s.1).1 (stepI h).1 h)then true else decide ((bif (stepI h).2 != 0 then 0 else depJ h s)≤(bif (stepI h).2 != 0 then 0 else nxI (depthI h s.1).1 (stepI h).1 h)))else false
def useI (h:Int) (s:Subset.D):Bool×Int:=bif subE h s != 0 then(false,subE h s)else bif s.2==0 then(s.1==1,0)else
 (useB h s,bif (stepI h).2 != 0 then(stepI h).2 else depE h s)
def s365':Sp:= .fn [.v I,.v Subset] fun x=>(true,rd5 (bif (stepI x.1).2 != 0 then 0 else(depthI x.1 x.2.1).1) (bif (stepI x.1).2 != 0 then 0 else depJ x.1 x.2) (bif (stepI x.1).2 != 0 then 0 else nxI (depthI x.1 x.2.1).1 (stepI x.1).1 x.1)
 (bif (stepI x.1).2 != 0 then false else spB (depthI x.1 x.2.1).1 (stepI x.1).1 x.1) (bif (stepI x.1).2 != 0 then(stepI x.1).2 else depE x.1 x.2))
theorem s365_eq:s365=s365':=by
 unfold s365 s365'
 congr 1
 funext x
 obtain⟨h,s⟩:=x
 show(true,depsV h s)=_
 unfold depsV
 simp only
 cases (stepI h).2 != 0<;>rfl
theorem r327 (h:Int) (s:Subset.D):run (orc [(N341,s341),(N365,s365')]) noL [] F327 (encA [.v I,.v Subset] (h,s)) []=
 bif subE h s != 0 then some (rb2 false (subE h s))else bif s.2==0 then some (rb2 (s.1==1) 0)else some (rb2 (useB h s) (bif (stepI h).2 != 0 then(stepI h).2 else depE h s)):=by kernel_rfl
def s327:Sp:= .fn [.v I,.v Subset] fun x=>(true,rb2 (useI x.1 x.2).1 (useI x.1 x.2).2)
theorem g327:GoodS Tryz.prog N327 s327:=by
 refine good (.cons g341 (.cons (s365_eq▸g365) (.nil _))) H327 rfl (by kernel_rfl) noL [] (noLoops (by kernel_rfl)) [.v I,.v Subset] (by decide) [] _ fun x r hw e=> ?_
 obtain⟨h,s⟩:=x
 cases e
 rw[r327];unfold useI
 cases subE h s != 0 with
 |true=>rfl
 |false=>cases s.2==0<;>rfl
def schE (h k:Int):Int:=bif (bif decide (k<1)then true else decide (k>3))then 1 else chkI h 1
theorem r348 (h k:Int):run (orc [(N366,s366)]) noL [] F348 (encA [.v I,.v I] (h,k)) []=bif (bif decide (k<1)then true else decide (k>3))then some (.one (.int .i64 1))else some (.one (.int .i64 (chkI h 1))):=by kernel_rfl
def s348:Sp:= .fn [.v I,.v I] fun x=>(true,.one (.int .i64 (schE x.1 x.2)))
theorem g348:GoodS Tryz.prog N348 s348:=by
 refine good (.cons g366 (.nil _)) H348 rfl (by kernel_rfl) noL [] (noLoops (by kernel_rfl)) [.v I,.v I] (by decide) [] _ fun x r hw e=> ?_
 obtain⟨h,k⟩:=x
 cases e
 rw[r348];unfold schE
 cases (bif decide (k<1)then true else decide (k>3))<;>rfl
def mayB3 (h k:Int) (s:Subset.D):Bool:=bif schE h k != 0 then true else subE h s != 0
def mayI (h k:Int) (s:Subset.D):Bool×Int:=bif mayB3 h k s then(false,1)else bif k==1 then(s.2==0,0)else bif k==2 then(bif s.2 != 0 then true else s.1==1,0)else useI h s
theorem r318 (h k:Int) (s:Subset.D):run (orc [(N348,s348),(N341,s341),(N327,s327)]) noL [] F318 (encA [.v I,.v I,.v Subset] (h,k,s)) []=
 bif mayB3 h k s then some (rb2 false 1)else bif k==1 then some (rb2 (s.2==0) 0)else bif k==2 then some (rb2 (bif s.2 != 0 then true else s.1==1) 0)else some (rb2 (useI h s).1 (useI h s).2):=by kernel_rfl
def s318:Sp:= .fn [.v I,.v I,.v Subset] fun x=>(true,rb2 (mayI x.1 x.2.1 x.2.2).1 (mayI x.1 x.2.1 x.2.2).2)
theorem g318:GoodS Tryz.prog N318 s318:=by
 refine good (.cons g348 (.cons g341 (.cons g327 (.nil _)))) H318 rfl (by kernel_rfl) noL [] (noLoops (by kernel_rfl)) [.v I,.v I,.v Subset] (by decide) [] _ fun x r hw e=> ?_
 obtain⟨h,k,s⟩:=x
 cases e
 rw[r318];unfold mayI
 cases mayB3 h k s with
 |true=>rfl
 |false=>
  cases k==1 with
  |true=>rfl
  |false=>cases k==2<;>rfl
def prS (h st i n:Int):Int:=bif i.tmod st==0 then IntKind.i64.wrap (n+IntKind.i64.wrap (h-i))else IntKind.i64.wrap (n+IntKind.i64.wrap (nxI i st h-i))
def prG (h st:Int):Nat→Nat→Int→Int
 |0,_,n=>n
 |m+1,j,n=>prG h st m (j+1) (prS h st j n)
def pairsN (h:Int):Int:=prG h (stepN h) h.toNat 0 0
def pairsI (h:Int):Int×Int:=bif (stepI h).2 != 0 then(0,(stepI h).2)else(pairsN h,0)
def manyV (h k:Int):Int×Int:=bif (pairsI h).2 != 0 then(0,(pairsI h).2)else bif k==1 then(IntKind.i64.wrap (h+1),0)else
 bif k==2 then(IntKind.i64.wrap (IntKind.i64.wrap ((IntKind.i64.wrap (h*IntKind.i64.wrap (h+1))).tdiv 2)+1),0)else bif k==3 then(IntKind.i64.wrap ((pairsI h).1+1),0)else(0,1)
def s326:Sp:= .fn [.v I,.v I] fun x=>(true,ri2 (manyV x.1 x.2).1 (manyV x.1 x.2).2)
abbrev lv310:List (Nat×Dir):=[(0,.keep),(1,.keep),(10,.keep),(12,.arr Subset)]
abbrev live310:List (Nat×List (Nat×Dir)):=[(0,lv310++[(42,.keep),(43,.keep)]),(2,lv310++[(61,.keep),(62,.keep)]),(4,lv310++[(14,.keep),(15,.keep),(61,.keep),(62,.keep)])]
def Γ310:Orc:=orc [(N326,s326),(N323,s323),(N327,s327)]
def loopK (f:Func) (k:Nat):Nat×Code:=(loopsOf 0 (body f)).getD k (0,.skip)
def vsA (h k leaf:Int) (out:List Subset.D):List AV:=[.one (.int .i64 h),.one (.int .i64 k),.one (.int .u64 leaf),.arr true Subset out]
theorem threeLoops {Γ:Orc} {Λ:Lam AV} {ms:Lay} {c:Code} {p0 p1 p2:Nat×Code} (h:loopsOf 0 c=[p0,p1,p2]) (h0:LoopP tb Γ Λ ms p0) (h1:LoopP tb Γ Λ ms p1) (h2:LoopP tb Γ Λ ms p2): ∀p∈loopsOf 0 c,LoopP tb Γ Λ ms p:=by
 rw[h];intro p hp
 rcases List.mem_cons.1 hp with rfl|hp
 ·exact h0
 ·rcases List.mem_cons.1 hp with rfl|hp
  ·exact h1
  ·rw[List.mem_singleton.1 hp];exact h2
def wG (h leaf:Int):Nat→Nat→List Subset.D→List Subset.D
 |0,_,out=>out
 |m+1,j,out=>wG h leaf m (j+1) (out++[(shrI leaf (h-j),0)])
def prP (h leaf t d:Int):Int×Int:=(shrI leaf (h-t),xorI (shrI leaf (h-d)) 1)
def keepB (h k:Int) (s:Int×Int):Bool:=bif k==3 then !(bif (useI h s).2 != 0 then true else !(useI h s).1)else true
def inG (h k leaf:Int) (t:Nat):Nat→Nat→List Subset.D→List Subset.D
 |0,_,out=>out
 |m+1,d,out=>inG h k leaf t m (d+1) (bif keepB h k (prP h leaf t d)then out++[prP h leaf t d]else out)
def outG (h k leaf:Int):Nat→Nat→List Subset.D→List Subset.D
 |0,_,out=>out
 |m+1,t,out=>outG h k leaf m (t+1) (inG h k leaf t (h.toNat-t) (t+1) out)
def c4 (h t d:Int) (out:List Subset.D):Bool:=decide (1≤h)&&decide (h≤32)&&decide (0≤t)&&decide (t<h)&&decide (d=t+1)&&decide (out.length≤2000)
def vs0 (h k leaf n i:Int) (out:List Subset.D):List AV:=vsA h k leaf out++[.one (.int .i64 n),.one (.int .i64 i)]
def vs4' (h k leaf t d n i:Int) (out:List Subset.D):List AV:=vsA h k leaf out++[.one (.int .i64 t),.one (.int .i64 d),.one (.int .i64 n),.one (.int .i64 i)]
def Λ310:Lam AV:=fun cur vs K=>
 match cur,vs with
 |0,[.one (.int .i64 h),.one (.int .i64 k),.one (.int .u64 leaf),.arr true (.pair (.int .u64) (.int .u64)) [],.one (.int .i64 n),.one (.int .i64 0)]=>
  bif decide (1≤h)&&decide (h≤32)&&decide (n=h+1)then K (.exit 0) (vs0 h k leaf n n (wG h leaf (h.toNat+1) 0 []))else none
 |2,[.one (.int .i64 h),.one (.int .i64 k),.one (.int .u64 leaf),.arr true (.pair (.int .u64) (.int .u64)) out,.one (.int .i64 n),.one (.int .i64 0)]=>
  bif decide (1≤h)&&decide (h≤32)&&decide (n=h)&&decide (out.length≤1)then K (.exit 2) (vs0 h k leaf n n (outG h k leaf h.toNat 0 out))else none
 |4,[.one (.int .i64 h),.one (.int .i64 k),.one (.int .u64 leaf),.arr true (.pair (.int .u64) (.int .u64)) out,.one (.int .i64 t),.one (.int .i64 d),.one (.int .i64 n),.one (.int .i64 i)]=>
  bif c4 h t d out then K (.exit 4) (vs4' h k leaf t (h+1) n i (inG h k leaf t.toNat (h.toNat-t.toNat) d.toNat out))else none
 |_,_=>none
noncomputable abbrev lp0 (K:AE→List AV→Option AV) (fuel:Nat) (vs:List AV):Option AV:=loopN (aexec tb Γ310 Λ310 ⟨104,0,live310⟩ (loopK F310 0).2 0) 104 0 (lv310++[(42,.keep),(43,.keep)]) K fuel vs
theorem step0 (h k leaf n i:Int) (out:List Subset.D) (fuel:Nat) (K:AE→List AV→Option AV):lp0 K (fuel+1) (vs0 h k leaf n i out)=
 bif decide (i<n)then bif decide (0≤IntKind.i64.wrap (h-i))then bif decide ((out.length+1)*16≤140737488355328)then
  lp0 K fuel (vs0 h k leaf n (IntKind.i64.wrap (i+1)) (out++[(shrI leaf (IntKind.i64.wrap (h-i)),0)]))else none else none else K (.exit 0) (vs0 h k leaf n i out):=by kernel_rfl
theorem upLoopI {α:Type} {n:Nat} {F:Nat→α→Int→Option AV} {G:Nat→α→Option AV} {Inv:Nat→α→Prop} (h1: ∀fuel a,F (fuel+1) a n=G n a)
 (h2: ∀a (j:Nat),j<n→Inv j a→(∃a',Inv (j+1) a'∧(∀fuel,F (fuel+1) a j=F fuel a' ((j+1:Nat):Int))∧G j a=G (j+1) a')∨(∀fuel,F (fuel+1) a j=G j a)):
 ∀(m j:Nat) (a:α) (out:AV),j+m=n→Inv j a→G j a=some out→ ∃fuel,F fuel a j=some out:=by
 intro m
 induction m with
 |zero=>
  intro j a out hj _ h
  obtain rfl:j=n:=by omega
  exact⟨1,(h1 0 a).trans h⟩
 |succ m ih=>
  intro j a out hj hi h
  rcases h2 a j (by omega) hi with⟨a',g0,g1,g2⟩|g
  ·obtain⟨fuel,hf⟩:=ih (j+1) a' out (by omega) g0 (g2▸h)
   exact⟨fuel+1,(g1 fuel).trans hf⟩
  ·exact⟨1,(g 0).trans h⟩
abbrev live311:List (Nat×Dir):=[(2,.keep),(8,.keep),(9,.arr I),(29,.keep),(30,.keep)]
def vs311 (b n:Int) (l:List Int) (i:Int):List AV:=[.one (.int .u64 b),.one (.int .i64 n),.arr true I l,.one (.int .i64 n),.one (.int .i64 i)]
def Γ311:Orc:=orc [(N328,s328),(N329,s329),(N330,s330)]
def bitI (b j:Int):Int:=IntKind.i64.wrap (IntKind.u64.wrap (BitVec.ofInt 64 (shrI b j)&&&BitVec.ofInt 64 1).toNat)
def setG (b:Int) (n:Nat):Nat→Nat→List Int→List Int
 |0,_,l=>l
 |m+1,j,l=>setG b n m (j+1) (l.set (n-1-j) (bitI b j))
theorem step311 (b n i:Int) (l:List Int) (Λ:Lam AV) (fuel:Nat) (K:AE→List AV→Option AV):loopN (aexec tb Γ311 Λ ⟨46,0,[(1,live311)]⟩ (loopK F311 0).2 1) 46 0 live311 K (fuel+1) (vs311 b n l i)=
 bif decide (i<n)then bif decide (0≤i)then bif inB (IntKind.i64.wrap (IntKind.i64.wrap (n-1)-i)) l.length then
  loopN (aexec tb Γ311 Λ ⟨46,0,[(1,live311)]⟩ (loopK F311 0).2 1) 46 0 live311 K fuel (vs311 b n (l.set (IntKind.i64.wrap (IntKind.i64.wrap (n-1)-i)).toNat (bitI b i)) (IntKind.i64.wrap (i+1)))
 else none else none else K (.exit 1) (vs311 b n l i):=by kernel_rfl
def Λ311:Lam AV:=fun cur vs K=>
 match cur,vs with
 |1,[.one (.int .u64 b),.one (.int .i64 n),.arr true (.int .i64) l,.one (.int .i64 n'),.one (.int .i64 0)]=>
  bif decide (n'=n)&&decide (n=l.length)&&decide (n≤64)then K (.exit 1) (vs311 b n (setG b n.toNat n.toNat 0 l) n)else none
 |_,_=>none
theorem loop311:LoopP tb Γ311 Λ311 ⟨46,0,[(1,live311)]⟩ (loopK F311 0):=by
 intro vs K out e
 have hcur:(loopK F311 0).1=1:=by kernel_rfl
 rw[hcur]at e⊢
 unfold Λ311 at e
 split at e
 ·rename_i b n l0 n' _
  cases hc:(decide (n'=n)&&decide (n=l0.length)&&decide (n≤64))with
  |false=>rw[hc]at e;cases e
  |true=>
   rw[hc]at e
   simp only[cond_true]at e
   simp only[Bool.and_eq_true,decide_eq_true_eq]at hc
   obtain⟨⟨rfl,hn⟩,h64⟩:=hc
   obtain⟨N,rfl⟩:=Int.eq_ofNat_of_zero_le (show 0≤n' by omega)
   refine upLoopI (α:=List Int) (n:=N) (F:=fun fuel l i=>loopN (aexec tb Γ311 Λ311 ⟨46,0,[(1,live311)]⟩ (loopK F311 0).2 1) 46 0 live311 K fuel (vs311 b N l i))
    (G:=fun j l=>K (.exit 1) (vs311 b N (setG b N (N-j) j l) N)) (Inv:=fun j l=>l.length=N) (fun fuel l=> ?_) (fun l j hj hi=> ?_) N 0 l0 out (by omega) (by omega) e
   ·simp only[step311,nlt_dec,cond_false,Nat.sub_self,setG]
   ·left
    refine⟨l.set (N-1-j) (bitI b j),by simpa using hi,fun fuel=> ?_, ?_⟩
    ·have e1:IntKind.i64.wrap (IntKind.i64.wrap ((N:Int)-1)-(j:Int))=((N-1-j:Nat):Int):=by
      rw[wrap64 (n:=(N:Int)-1) (by omega) (by omega),wrap64 (by omega) (by omega)];omega
     simp only[step311,lt_dec hj,cond_true,e1,inB_lt (show N-1-j<l.length by omega),Int.toNat_natCast]
     rw[decide_eq_true (show(0:Int)≤(j:Int) by omega),wrap64 (n:=(j:Int)+1) (by omega) (by omega)];rfl
    ·have:N-j=(N-(j+1))+1:=by omega
     rw[this,setG]
 ·cases e
def pathN (a b:Int):Int:=depI b-depI a
def pathI (h a b:Int):List Int×Int:=bif bothI h a b != 0 then([],1)else bif !aboveB a b then([],4)else(setG b (pathN a b).toNat (pathN a b).toNat 0 (List.replicate (pathN a b).toNat 0),0)
def rli (l:List Int) (e:Int):AV:= .tup [(false,[.sl true I none l]),(false,[.int .i64 e])]
def pathR (b n:Int):Option AV:=bif decide (0≤n)&&decide (n≤n)&&decide ((8:Int)*n≤281474976710656)then
 bif decide (n=n)&&decide (n=(List.replicate n.toNat (0:Int)).length)&&decide (n≤64)then some (rli (setG b n.toNat n.toNat 0 (List.replicate n.toNat 0)) 0)else none else none
theorem r311 (h a b:Int):run Γ311 Λ311 [(1,live311)] F311 (encA [.v I,.v U,.v U] (h,a,b)) [.sl true I]=
 bif bothI h a b != 0 then some (rli [] 1)else bif !aboveB a b then some (rli [] 4)else pathR b (IntKind.i64.wrap (depI b-depI a)):=by kernel_rfl
theorem above_le {a b:Int} (h:aboveB a b=true):depI a≤depI b:=by
 unfold aboveB at h
 cases hd:decide (depI a≤depI b)with
 |true=>exact of_decide_eq_true hd
 |false=>rw[hd]at h;cases h
theorem pathR_ok {b n:Int} (h1:0≤n) (h2:n≤64):pathR b n=some (rli (setG b n.toNat n.toNat 0 (List.replicate n.toNat 0)) 0):=by
 unfold pathR
 rw[decide_eq_true h1,decide_eq_true (Int.le_refl n),decide_eq_true (show(8:Int)*n≤281474976710656 by omega),decide_eq_true (show n=n from rfl),decide_eq_true h2,
  decide_eq_true (show n=(List.replicate n.toNat (0:Int)).length by rw[List.length_replicate];omega)]
 rfl
theorem pathN_bd {a b:Int} (ha:IntKind.u64.has a) (hb:IntKind.u64.has b) (h:aboveB a b=true):0≤pathN a b∧pathN a b≤64∧IntKind.i64.wrap (depI b-depI a)=pathN a b:=by
 have h1:=depI_bd ha
 have h2:=depI_bd hb
 have h3:=above_le h
 unfold pathN
 exact⟨by omega,by omega,wrap64 (by omega) (by omega)⟩
def s311:Sp:= .fn [.v I,.v U,.v U] fun x=>(true,rli (pathI x.1 x.2.1 x.2.2).1 (pathI x.1 x.2.1 x.2.2).2)
theorem g311:GoodS Tryz.prog N311 s311:=by
 refine good (.cons g328 (.cons g329 (.cons g330 (.nil _)))) H311 rfl (by kernel_rfl) Λ311 [(1,live311)] (oneLoop (p0:=loopK F311 0) (by kernel_rfl) loop311) [.v I,.v U,.v U] (by decide) [.sl true I] _ fun x r hw e=> ?_
 obtain⟨h,a,b⟩:=x
 cases e
 refine(r311 h a b).trans ?_
 show _=some (rli (pathI h a b).1 (pathI h a b).2)
 unfold pathI
 cases bothI h a b != 0 with
 |true=>rfl
 |false=>
  cases ha:aboveB a b with
  |false=>rfl
  |true=>
   obtain⟨p1,p2,p3⟩:=pathN_bd hw.2.1 hw.2.2 ha
   rw[p3,pathR_ok p1 p2];rfl
def sAt (l:List Subset.D) (i:Int):Subset.D:=l.getD i.toNat (0,0)
theorem sAt_drop {l:List Subset.D} {j:Nat} (h:j<l.length):l.drop j=sAt l j::l.drop (j+1):=by
 rw[List.drop_eq_getElem_cons h]
 simp [sAt,h]
theorem lenMax {α:Type} {l:List α} (hw:l.length≤9223372036854775807):(decide ((l.length:Int)=l.length)&&decide ((l.length:Int)≤9223372036854775807))=true:=by
 have hmax:(l.length:Int)≤9223372036854775807:=by omega
 simp [hmax]
def iAt (l:List Int) (i:Int):Int:=l.getD i.toNat 0
def sameI (a b:List Int):Bool:=decide (a=b)
def lv (x:Int×List Int×Int):Bool:=bif bif x.2.2 ==0 then x.1==1 else false then sameI x.2.1 [0]else false
def badS (h:Int) (s:Subset.D):Bool:=subE h s != 0
def hasS (h i:Int) (s:Subset.D):Bool:=bif (hasI h s i).2==0 then(hasI h s i).1 else false
def allK (R:Nat→Option AV) (E:Option AV) (bad:Nat→Bool):Nat→Nat→Option AV
 |0,_=>E
 |m+1,j=>bif bad j then R j else allK R E bad m (j+1)
theorem bad_iff {h n:Int}:badN h n=false↔highB h=true∧1≤n∧depI n≤h:=by
 refine⟨bad_false,fun⟨h1,h2,h3⟩=> ?_⟩
 unfold badN
 rw[h1,decide_eq_false (show ¬n<1 by omega)]
 exact decide_eq_false (by omega)
theorem dep_nat {n:Int} (h:1≤n):depI n=(n.toNat.log2:Int):=by
 obtain⟨m,rfl⟩:=Int.eq_ofNat_of_zero_le (show 0≤n by omega)
 unfold depI
 rw[lenI_nat (by omega)]
 show((m.log2:Int)+1)-1=_
 rw[Int.toNat_natCast];omega
theorem chk_nat {h n:Int} (h0:0≤n):chkI h n=bif okN h.toNat n.toNat then 0 else 1:=by
 have key:badN h n= !okN h.toNat n.toNat:=by
  cases ho:okN h.toNat n.toNat with
  |true=>
   obtain⟨h1,h2,h3,h4⟩:=okN_iff.1 ho
   refine bad_iff.2 ⟨highB_iff.2 (by omega),by omega, ?_⟩
   rw[dep_nat (by omega)]
   have:=(okN_log (h:=h.toNat) (n:=n.toNat) (by omega)).1 h4
   omega
  |false=>
   cases hb:badN h n with
   |true=>rfl
   |false=>
    obtain⟨h1,h2,h3⟩:=bad_iff.1 hb
    have h1:=highB_iff.1 h1
    rw[dep_nat h2]at h3
    have:okN h.toNat n.toNat=true:=okN_iff.2 ⟨by omega,by omega,by omega,(okN_log (by omega)).2 (by omega)⟩
    rw[this]at ho;cases ho
 unfold chkI;rw[key]
 cases okN h.toNat n.toNat<;>rfl
theorem shl_nat {a k:Nat} (hk:k≤64) (h:a*2^k<2^64):shlI a k=((a*2^k:Nat):Int):=by
 unfold shlI
 rw[Int.toNat_natCast,Nat.min_eq_left hk,wrapU]
 ·simp
 ·exact Int.mul_nonneg (by omega) (Int.le_of_lt (Int.pow_pos (by decide)))
 ·have:((a*2^k:Nat):Int)<18446744073709551616:=by omega
  have e:((a*2^k:Nat):Int)=(a:Int)*2^k:=by simp
  rw[←e];omega
theorem pow32 {h:Nat} (h1:h≤32):2^h≤2^32:=Nat.pow_le_pow_right (by decide) h1
theorem or_nat {a b:Nat} (ha:a<2^64) (hb:b<2^64):orU a b=((a|||b:Nat):Int):=by
 unfold orU
 have e1:(BitVec.ofInt 64 (a:Int)).toNat=a:=by rw[BitVec.toNat_ofInt];omega
 have e2:(BitVec.ofInt 64 (b:Int)).toNat=b:=by rw[BitVec.toNat_ofInt];omega
 rw[BitVec.toNat_or,e1,e2,wrapU]
 ·omega
 ·have:=Nat.or_lt_two_pow ha hb;omega
def leafV (h i:Nat):Int×Int:=bif decide (1≤h)&&decide (h≤32)then bif decide (i<2^h)then((leafN h i:Nat),0)else(0,4)else(0,1)
theorem leaf_nat {h i:Int} (h0:0≤i) (h1:i.toNat<2^64):leafI h i=leafV h.toNat i.toNat:=by
 unfold leafI leafV
 cases hh:highB h with
 |false=>
  have: ¬(1≤h∧h≤32):=fun h=>by rw[highB_iff.2 h]at hh;cases hh
  have e:(decide (1≤h.toNat)&&decide (h.toNat≤32))=false:=by
   cases h2:decide (1≤h.toNat)with
   |false=>rfl
   |true=>exact decide_eq_false (by have:=of_decide_eq_true h2;omega)
  rw[e];rfl
 |true=>
  have h2:=highB_iff.1 hh
  have e:(decide (1≤h.toNat)&&decide (h.toNat≤32))=true:=by simp;omega
  rw[e]
  simp only[Bool.not_true,cond_true,cond_false]
  have e2:h=(h.toNat:Int):=by omega
  rw[shr_nat h0 (by omega)]
  have hp:=pow32 (h:=h.toNat) (by omega)
  have hp0:=Nat.two_pow_pos h.toNat
  cases hi:decide (i.toNat<2^h.toNat)with
  |false=>
   have hi:=of_decide_eq_false hi
   have:0<i.toNat/2^h.toNat:=Nat.div_pos (by omega) hp0
   rw[decide_eq_true (by omega)];rfl
  |true=>
   have hi:=of_decide_eq_true hi
   have:i.toNat/2^h.toNat=0:=Nat.div_eq_of_lt hi
   rw[this,decide_eq_false (by omega)]
   simp only[cond_false,cond_true]
   have e3:shlI 1 h=((2^h.toNat:Nat):Int):=by
    have:=shl_nat (a:=1) (k:=h.toNat) (by omega) (by omega)
    rw[←e2,Nat.one_mul]at this;exact this
   have e4:i=(i.toNat:Int):=by omega
   have e5:orU (shlI 1 h) i=((leafN h.toNat i.toNat:Nat):Int):=by
    rw[e3,e4,or_nat (by omega) (by omega)]
    have:=Nat.two_pow_add_eq_or_of_lt hi 1
    rw[Nat.mul_one]at this
    rw[Int.toNat_natCast,←this];rfl
   rw[e5]
theorem above_nat {a b:Int} (ha:1≤a) (hb:1≤b) (h64:b.toNat<2^64):aboveB a b=abv a.toNat b.toNat:=by
 unfold aboveB abv
 rw[dep_nat ha,dep_nat hb]
 have hl:b.toNat.log2<64:=(Nat.log2_lt (by omega)).2 h64
 cases h:decide (a.toNat.log2≤b.toNat.log2)with
 |false=>
  rw[decide_eq_false (by have:=of_decide_eq_false h;omega)];rfl
 |true=>
  have h:=of_decide_eq_true h
  rw[decide_eq_true (by omega),shr_nat (by omega) (by omega)]
  simp only[cond_true,Bool.true_and]
  have e:((b.toNat.log2:Int)-(a.toNat.log2:Int)).toNat=b.toNat.log2-a.toNat.log2:=by omega
  rw[e]
  apply Bool.eq_iff_iff.2
  simp only[beq_iff_eq]
  omega
theorem okN_pow {h n:Nat} (hk:okN h n=true):2^h≤n*2^(h-n.log2)∧n*2^(h-n.log2)+2^(h-n.log2)≤2^(h+1)∧n.log2≤h:=by
 obtain⟨h1,h2,h3,h4⟩:=okN_iff.1 hk
 have hl:=(okN_log (h:=h) (n:=n) (by omega)).1 h4
 have a:=log2_le (n:=n) (by omega)
 have b:=lt_log2 (n:=n)
 have e1:2^h=2^n.log2*2^(h-n.log2):=by rw[←Nat.pow_add];congr 1;omega
 have e2:2^(h+1)=2^(n.log2+1)*2^(h-n.log2):=by rw[←Nat.pow_add];congr 1;omega
 refine⟨?_, ?_,hl⟩
 ·rw[e1];exact Nat.mul_le_mul_right _ a
 ·rw[e2,←Nat.succ_mul];exact Nat.mul_le_mul_right _ b
theorem within_nat {h n i:Int} (h0:0≤n) (hi0:0≤i) (hk:okN h.toNat n.toNat=true) (hi:i.toNat<2^h.toNat):(leavesI h n).2=0∧within (leavesI h n).1 i=abv n.toNat (leafN h.toNat i.toNat):=by
 have hc:(chkI h n != 0)=false:=by rw[chk_nat h0,hk];rfl
 obtain⟨h1,h2,h3⟩:=chk_zero hc
 have h1:=highB_iff.1 h1
 obtain⟨p1,p2,p3⟩:=okN_pow hk
 have hp:=pow32 (h:=h.toNat) (by omega)
 have hp1:2^(h.toNat+1)=2*2^h.toNat:=by rw[Nat.pow_succ];omega
 unfold leavesI
 rw[hc,dep_nat h2]
 refine⟨rfl, ?_⟩
 simp only[cond_false]
 have ed:h-(n.toNat.log2:Int)=((h.toNat-n.toNat.log2:Nat):Int):=by omega
 rw[ed]
 have hll:=leafN_log2 hi
 have ell:leafN h.toNat i.toNat=2^h.toNat+i.toNat:=rfl
 generalize hD:h.toNat-n.toNat.log2=d at*
 have hd0:=Nat.two_pow_pos d
 have e1:shlI n d=((n.toNat*2^d:Nat):Int):=by
  have:=shl_nat (a:=n.toNat) (k:=d) (by omega) (by omega)
  rw[←this];congr 1;omega
 have e2:shlI 1 h=((2^h.toNat:Nat):Int):=by
  have:=shl_nat (a:=1) (k:=h.toNat) (by omega) (by omega)
  rw[Nat.one_mul]at this
  rw[←this];congr 1;omega
 have e3:shlI 1 d=((2^d:Nat):Int):=by
  have hd:2^d≤2^32:=pow32 (by omega)
  have:=shl_nat (a:=1) (k:=d) (by omega) (by omega)
  rw[Nat.one_mul]at this
  exact this
 have hlow:lowI h n d=((n.toNat*2^d-2^h.toNat:Nat):Int):=by
  unfold lowI
  rw[e1,e2,wrapU (by omega) (by omega)];omega
 have htop:topI h n d=((n.toNat*2^d-2^h.toNat+2^d-1:Nat):Int):=by
  have hd0:=Nat.two_pow_pos d
  unfold topI
  rw[hlow,e3,wrapU (n:=_+_) (by omega) (by omega),wrapU (by omega) (by omega)];omega
 rw[hlow,htop]
 have hd0:=Nat.two_pow_pos d
 unfold within abv
 rw[hll,hD,decide_eq_true p3,Bool.true_and]
 apply Bool.eq_iff_iff.2
 simp only[beq_iff_eq]
 rw[Nat.div_eq_iff hd0,ell]
 constructor
 ·intro hx
  cases hy:decide (((n.toNat*2^d-2^h.toNat:Nat):Int)≤i)with
  |false=>rw[hy]at hx;cases hx
  |true=>
   rw[hy]at hx
   have hx:=of_decide_eq_true hx
   have hy:=of_decide_eq_true hy
   constructor<;>omega
 ·rintro⟨ha,hb⟩
  rw[decide_eq_true (by omega)]
  exact decide_eq_true (by omega)
def leafOk (h i:Nat):Bool:=decide (1≤h)&&decide (h≤32)&&decide (i<2^h)
theorem leafOk_iff {h i:Nat}:leafOk h i=true↔1≤h∧h≤32∧i<2^h:=by simp [leafOk,and_assoc]
theorem leafV_err {h i:Nat}:((leafV h i).2==0)=leafOk h i:=by
 unfold leafV leafOk
 cases decide (1≤h)&&decide (h≤32)with
 |false=>rfl
 |true=>cases decide (i<2^h)<;>rfl
theorem leaf_err {h i:Int} (h0:0≤i) (h1:i.toNat<2^64):((leafI h i).2==0)=leafOk h.toNat i.toNat:=by rw[leaf_nat h0 h1];exact leafV_err
theorem okN_one {h:Nat}:okN h 1=(decide (1≤h)&&decide (h≤32)):=by
 apply Bool.eq_iff_iff.2
 rw[okN_iff]
 simp only[Bool.and_eq_true,decide_eq_true_eq]
 constructor
 ·rintro⟨a,b,_,_⟩;exact⟨a,b⟩
 ·rintro⟨a,b⟩
  have:2^1≤2^(h+1):=Nat.pow_le_pow_right (by decide) (by omega)
  exact⟨a,b,Nat.le_refl 1,by omega⟩
theorem chk_ne {h n:Int} (h0:0≤n):(chkI h n != 0)= !okN h.toNat n.toNat:=by
 rw[chk_nat h0];cases okN h.toNat n.toNat<;>rfl
theorem noLeaf_nat {h i:Int} (h0:0≤i) (h1:i.toNat<2^64):noLeaf h i= !leafOk h.toNat i.toNat:=by
 unfold noLeaf lchk
 rw[leaf_err h0 h1,chk_ne (by decide)]
 show(bif (bif !okN h.toNat 1 then(1:Int)else 0) != 0 then true else !leafOk h.toNat i.toNat)=_
 rw[okN_one]
 unfold leafOk
 cases decide (1≤h.toNat)&&decide (h.toNat≤32)<;>cases decide (i.toNat<2^h.toNat)<;>rfl
theorem subE_nat {h:Int} {s:Int×Int} (h1:IntKind.u64.has s.1) (h2:IntKind.u64.has s.2):subE h s=bif okS h.toNat s.1.toNat s.2.toNat then 0 else 1:=by
 obtain⟨i,j⟩:=s
 obtain⟨a0,a1,a2⟩:=hasU h1
 obtain⟨b0,b1,b2⟩:=hasU h2
 simp only at a0 a1 a2 b0 b1 b2⊢
 unfold subE okS
 simp only
 have e0:(j==0)=(j.toNat==0):=by apply Bool.eq_iff_iff.2;simp;omega
 rw[e0]
 cases hj:j.toNat==0 with
 |true=>
  simp only[cond_true,Bool.true_or,Bool.and_true]
  exact chk_nat a0
 |false=>
  simp only[cond_false,Bool.false_or]
  have hj:j.toNat≠0:=by simpa using hj
  have e1:(aboveI h i j)=bif okN h.toNat i.toNat&&okN h.toNat j.toNat then(aboveB i j,0)else(false,1):=by
   unfold aboveI bothI both
   rw[chk_ne a0,chk_ne b0]
   cases okN h.toNat i.toNat<;>cases okN h.toNat j.toNat<;>rfl
  rw[e1]
  cases ho:okN h.toNat i.toNat with
  |false=>rfl
  |true=>
   cases hp:okN h.toNat j.toNat with
   |false=>rfl
   |true=>
    have hi:=(okN_iff.1 ho).2.2.1
    rw[above_nat (by omega) (by omega) b1]
    have e2:(i==j)=(i.toNat==j.toNat):=by apply Bool.eq_iff_iff.2;simp;omega
    show(bif bif !(abv i.toNat j.toNat)then true else i==j then(1:Int)else 0)=bif abv i.toNat j.toNat&&i.toNat != j.toNat then 0 else 1
    rw[e2]
    unfold bne
    cases abv i.toNat j.toNat<;>cases i.toNat==j.toNat<;>rfl
theorem subE_ne {h:Int} {s:Int×Int} (h1:IntKind.u64.has s.1) (h2:IntKind.u64.has s.2):(subE h s != 0)= !okS h.toNat s.1.toNat s.2.toNat :=by
 rw[subE_nat h1 h2];cases okS h.toNat s.1.toNat s.2.toNat <;>rfl
theorem has_nat {h i:Int} {s:Int×Int} (h1:IntKind.u64.has s.1) (h2:IntKind.u64.has s.2) (hi:IntKind.u64.has i):
 hasI h s i=bif okS h.toNat s.1.toNat s.2.toNat &&leafOk h.toNat i.toNat then(hasN h.toNat s.1.toNat s.2.toNat i.toNat,0)else(false,1):=by
 obtain⟨c0,c1,c2⟩:=hasU hi
 obtain⟨a0,a1,a2⟩:=hasU h1
 obtain⟨b0,b1,b2⟩:=hasU h2
 unfold hasI badH inS bothS
 rw[noLeaf_nat c0 c1,subE_ne h1 h2]
 cases hk:okS h.toNat s.1.toNat s.2.toNat with
 |false=>
  rw[show subE h s=1 by rw[subE_nat h1 h2,hk];rfl];rfl
 |true=>
  obtain⟨k1,k2⟩:=okS_iff.1 hk
  simp only[Bool.not_true,cond_false,Bool.true_and]
  have e0:(s.2==0)=(s.2.toNat ==0):=by apply Bool.eq_iff_iff.2;simp;omega
  cases hl:leafOk h.toNat i.toNat with
  |false=>
   simp only[Bool.not_false,cond_true]
   have: ∀b:Bool,(bif b then true else(1:Int) != 0)=true:=by intro b;cases b<;>rfl
   rw[this];rfl
  |true=>
   have hl:=(leafOk_iff.1 hl).2.2
   obtain⟨w1,w2⟩:=within_nat a0 c0 k1 hl
   have w1':((leavesI h s.1).2==0)=true:=by rw[w1];rfl
   simp only[Bool.not_true,cond_false,cond_true,w1']
   unfold hasN
   cases hj:s.2.toNat ==0 with
   |true=>
    have:(s.2 != 0)=false:=by unfold bne;rw[e0,hj];rfl
    rw[this,e0,hj]
    simp only[cond_false,cond_true,w1,w2,Bool.true_or,Bool.and_true]
    cases abv s.1.toNat (leafN h.toNat i.toNat)<;>rfl
   |false=>
    have:(s.2 != 0)=true:=by unfold bne;rw[e0,hj];rfl
    rw[this,e0,hj]
    have hj:s.2.toNat ≠0:=by simpa using hj
    obtain⟨j1,j2,j3⟩:=k2.resolve_left hj
    obtain⟨x1,x2⟩:=within_nat b0 c0 j1 hl
    simp only[cond_false,cond_true,x1,x2,w2,Bool.false_or]
    cases abv s.1.toNat (leafN h.toNat i.toNat)<;>cases abv s.2.toNat (leafN h.toNat i.toNat)<;>rfl
def badP (i p:Int):Bool:=bif decide (p<0)then true else decide (p≥i)
def idxFrom (f:Int→Bool):List Int→Int→Int
 |[],_=> -1
 |x::xs,i=>bif f x then i else idxFrom f xs (i+1)
def cl (c:AV):Option (Int→Bool):=
 match c with
 | .one (.fn f [.ptrD false (.int .i64) i])=>bif Nat.beq f N121 then some (badP i)else none
 |_=>none
abbrev live101:List (Nat×List (Nat×Dir)):=[(0,[(0,.keep),(1,.keep),(4,.keep),(7,.keep),(8,.keep)])]
theorem idxFrom_drop (p:Int→Bool) (xs:List Int) (i:Nat) (h:i<xs.length):idxFrom p (xs.drop i) i=bif p (xs.getD i 0)then(i:Int)else idxFrom p (xs.drop (i+1)) ((i+1:Nat):Int):=by
 rw[List.drop_eq_getElem_cons h]
 simp [idxFrom,List.getD_eq_getElem?_getD,h]
theorem idxFrom_ge (p:Int→Bool): ∀(xs:List Int) (i:Int),idxFrom p xs i= -1∨i≤idxFrom p xs i:=by
 intro xs
 induction xs with
 |nil=>intro i;exact .inl rfl
 |cons x xs ih=>
  intro i
  simp only[idxFrom]
  cases p x with
  |true=>exact .inr (Int.le_refl i)
  |false=>rcases ih (i+1)with h|h
          ·exact .inl h
          ·exact .inr (by simp only[cond_false];omega)
theorem idx_any (p:Int→Bool): ∀(xs:List Int) (i:Int),0≤i→decide (idxFrom p xs i≥0)=xs.any p:=by
 intro xs
 induction xs with
 |nil=>intro i _;rfl
 |cons x xs ih=>
  intro i hi
  simp only[idxFrom,List.any_cons]
  rcases Bool.eq_false_or_eq_true (p x)with h|h
  ·simp only[h,cond_true,Bool.true_or];exact decide_eq_true hi
  ·simp only[h,cond_false,Bool.false_or];exact ih (i+1) (by omega)
theorem nl_split {w:World} {okA:Nat→Prop} {f:Bool} {t:Ty} {xs:List t.D} {v:Go.Value} (h:AVRel w μ0 (argOK okA) (.one (.sl f t none xs)) v):
 (xs=[]∧AVRel w μ0 (argOK okA) (.one (.sl f t (some true) xs)) v)∨AVRel w μ0 (argOK okA) (.one (.sl f t (some false) xs)) v:=by
 obtain⟨h1,_⟩:=h
 obtain⟨A,c,e,g1,g2,g3⟩:=id h1
 simp only[List.cons.injEq,and_true]at e
 subst e
 rcases g3 with⟨rfl,rfl,rfl⟩|⟨b,o,⟨sp,rfl,_⟩,_⟩
 ·exact .inl ⟨rfl,h1,rfl⟩
 ·exact .inr ⟨h1,_,_,_,rfl⟩
theorem good_nl {P:Program} {f:FuncId} {t:Ty} {xs:List t.D} {r:AV} (h1:xs=[]→Good P f [.one (.sl false t (some true) xs)] r) (h2:Good P f [.one (.sl false t (some false) xs)] r):Good P f [.one (.sl false t none xs)] r:=by
 intro w okA vs hA hl
 cases hl with
 | @cons _ v _ vs' hv ht=>
   rcases nl_split hv with⟨e,hv'⟩|hv'
   ·exact h1 e w okA _ hA (.cons hv' ht)
   ·exact h2 w okA _ hA (.cons hv' ht)
def oddB (s:Int):Bool:=IntKind.i64.wrap (BitVec.ofInt 64 s&&& ~~~(BitVec.ofInt 64 1)).toNat != 0
def idxN (p:Int→Bool):Nat→Nat→Int
 |0,_=> -1
 |m+1,j=>bif p j then(j:Int)else idxN p m (j+1)
theorem findN {ρ:Type} {n:Nat} {ok ans:Int→Bool} {F:Nat→Int→Option ρ} {Kx Kr:Int→Option ρ} (hmax:(n:Int)≤9223372036854775807)
 (step: ∀fuel (i:Int),F (fuel+1) i=bif decide (i<n)then bif ok i then bif ans i then Kr i else F fuel (IntKind.i64.wrap (i+1))else none else Kx i)
 (hall: ∀j:Nat,j<n→ok j=true) {out:ρ} (h:(bif decide (idxN ans n 0<0)then Kx n else Kr (idxN ans n 0))=some out): ∃fuel,F fuel 0=some out:=by
 have key: ∀(m j:Nat),j+m=n→(bif decide (idxN ans m j<0)then Kx n else Kr (idxN ans m j))=some out→ ∃fuel,F fuel j=some out:=by
  intro m
  induction m with
  |zero=>
   intro j hj h
   obtain rfl:j=n:=by omega
   exact⟨1,by rw[step,nlt_dec];exact h⟩
  |succ m ih=>
   intro j hj h
   have hlt:j<n:=by omega
   cases hp:ans j with
   |true=>
    have e:idxN ans (m+1) j=j:=by rw[idxN,hp];rfl
    rw[e,decide_eq_false (show ¬((j:Nat):Int)<0 by omega)]at h
    exact⟨1,by rw[step,lt_dec hlt,hall j hlt,hp];exact h⟩
   |false=>
    have e:idxN ans (m+1) j=idxN ans m (j+1):=by rw[idxN,hp];rfl
    rw[e]at h
    obtain⟨fuel,hf⟩:=ih (j+1) (by omega) h
    exact⟨fuel+1,by rw[step,lt_dec hlt,hall j hlt,hp,wrap64 (n:=(j:Int)+1) (by omega) (by omega)];exact hf⟩
 exact key n 0 (by omega) h
theorem idxN_lt (p:Int→Bool): ∀(m j:Nat),decide (idxN p m j<0)=true↔ ∀k:Nat,j≤k→k<j+m→p k=false:=by
 intro m
 induction m with
 |zero=>intro j;exact⟨fun _ k h1 h2=>by omega,fun _=>rfl⟩
 |succ m ih=>
  intro j
  cases hp:p j with
  |true=>
   have e:idxN p (m+1) j=j:=by rw[idxN,hp];rfl
   rw[e,decide_eq_false (show ¬((j:Nat):Int)<0 by omega)]
   exact⟨fun h=>(by cases h),fun h=>by rw[h j (Nat.le_refl _) (by omega)]at hp;cases hp⟩
  |false=>
   have e:idxN p (m+1) j=idxN p m (j+1):=by rw[idxN,hp];rfl
   rw[e,ih]
   refine⟨fun h k h1 h2=> ?_,fun h k h1 h2=>h k (by omega) (by omega)⟩
   rcases Nat.eq_or_lt_of_le h1 with rfl|h3
   ·exact hp
   ·exact h k h3 (by omega)
def anyN (p:Int→Bool) (n:Nat):Bool:= !decide (idxN p n 0<0)
theorem anyN_iff {p:Int→Bool} {n:Nat}:anyN p n=true↔ ∃k:Nat,k<n∧p k=true:=by
 unfold anyN
 constructor
 ·intro h
  rcases Classical.em (∃k:Nat,k<n∧p k=true)with h9|h9
  ·exact h9
  ·have:decide (idxN p n 0<0)=true:=(idxN_lt p n 0).2 fun k _ hk=>by
    cases hp:p k with
    |true=>exact absurd ⟨k,by omega,hp⟩ h9
    |false=>rfl
   rw[this]at h;cases h
 ·rintro⟨k,h1,h2⟩
  cases hd:decide (idxN p n 0<0)with
  |true=>have:=(idxN_lt p n 0).1 hd k (Nat.zero_le _) (by omega);rw[this]at h2;cases h2
  |false=>rfl
theorem anyN_not {p:Int→Bool} {n:Nat}:decide (idxN p n 0<0)= !anyN p n:=by unfold anyN;rw[Bool.not_not]
def Γ416:Orc:=orc [(N366,s366),(N330,s330)]
def ru2 (a e:Int):AV:= .tup [(false,[.int .u64 a]),(false,[.int .i64 e])]
def childI (h n i:Int):Int×Int:=bif bif chkI h n != 0 then true else oddB i then(0,1)else bif depI n==h then(0,4)else(orU (shlI n 1) (IntKind.u64.wrap i),0)
theorem r416 (h n i:Int):run Γ416 noL [] F416 (encA [.v I,.v U,.v I] (h,n,i)) []=
 bif bif chkI h n != 0 then true else oddB i then some (ru2 0 1)else bif depI n==h then some (ru2 0 4)else some (ru2 (orU (shlI n 1) (IntKind.u64.wrap i)) 0):=by kernel_rfl
def s416:Sp:= .fn [.v I,.v U,.v I] fun x=>(true,ru2 (childI x.1 x.2.1 x.2.2).1 (childI x.1 x.2.1 x.2.2).2)
theorem g416:GoodS Tryz.prog N416 s416:=by
 refine good (.cons g366 (.cons g330 (.nil _))) H416 rfl (by kernel_rfl) noL [] (noLoops (by kernel_rfl)) [.v I,.v U,.v I] (by decide) [] _ fun x r hw e=> ?_
 obtain⟨h,n,i⟩:=x
 cases e
 refine(r416 h n i).trans ?_
 show _=some (ru2 (childI h n i).1 (childI h n i).2)
 unfold childI
 cases bif chkI h n != 0 then true else oddB i<;>cases depI n==h<;>rfl
theorem r421 (a:Int):run (orc []) noL [] F421 [.one (.int .u64 a)] []=some (.one (.bool (a != a))):=by kernel_rfl
def s421:Sp:= .fn [.v U] fun x=>(true,.one (.bool false))
theorem g421:GoodS Tryz.prog N421 s421:=by
 refine good (OrcOk.nil _) H421 rfl (by kernel_rfl) noL [] (noLoops (by kernel_rfl)) [.v U] (by decide) [] _ fun x r hw e=> ?_
 cases e
 refine(r421 x).trans ?_
 rw[show(x != x)=false from bne_self_eq_false x]
def Γ422:Orc:=orc [(N421,s421)]
theorem r422 (a b:Int):run Γ422 noL [] F422 [.one (.int .u64 a),.one (.int .u64 b)] []=some (.one (.bool (decide (a<b)))):=by kernel_rfl
def s422:Sp:= .fn [.v U,.v U] fun x=>(true,.one (.bool (decide ((x.1:Int)<x.2))))
theorem g422:GoodS Tryz.prog N422 s422:=by
 refine good (.cons g421 (.nil _)) H422 rfl (by kernel_rfl) noL [] (noLoops (by kernel_rfl)) [.v U,.v U] (by decide) [] _ fun x r hw e=> ?_
 obtain⟨a,b⟩:=x
 cases e
 exact r422 a b
def Γ402u:Orc:=orc [(N422,s422),(N423,s423)]
abbrev live402u:List (Nat×Dir):=[(0,.keep),(1,.keep),(6,.keep),(7,.keep),(8,.keep)]
def vs402u (xs:List Int) (t n i j:Int):List AV:=[.one (.sl false U none xs),.one (.int .u64 t),.one (.int .i64 n),.one (.int .i64 i),.one (.int .i64 j)]
noncomputable abbrev lo402u (Λ:Lam AV) (K:AE→List AV→Option AV) (fuel:Nat) (vs:List AV):Option AV:=loopN (aexec tb Γ402u Λ ⟨54,0,[(0,live402u)]⟩ (loop1 F402).2 0) 54 0 live402u K fuel vs
def bsAu (l:List Int) (i:Int):Int:=l.getD i.toNat (Ty.int IntKind.u64).dflt
def midWu (i j:Int):Int:=IntKind.i64.wrap ((IntKind.u64.wrap (IntKind.i64.wrap (i+j))).fdiv (2^min (Int.toNat 1) IntKind.u64.bits))
theorem step402u (xs:List Int) (t n i j:Int) (Λ:Lam AV) (K:AE→List AV→Option AV) (fuel:Nat):lo402u Λ K (fuel+1) (vs402u xs t n i j)=
 bif decide (i<j)then bif inB (midWu i j) xs.length then
  bif decide (bsAu xs (midWu i j)<t)then lo402u Λ K fuel (vs402u xs t n (IntKind.i64.wrap (midWu i j+1)) j)else lo402u Λ K fuel (vs402u xs t n i (midWu i j))
 else none else K (.exit 0) (vs402u xs t n i j):=by kernel_rfl
theorem midW_equ {i j:Nat} (h:i+j≤9223372036854775807):midWu i j=(((i+j)/2:Nat):Int):=by
 unfold midWu
 rw[wrap64 (n:=(i:Int)+j) (by omega) (by omega),wrapU (by omega) (by omega)]
 have e:(2:Int)^min (Int.toNat 1) IntKind.u64.bits=2:=by decide
 rw[e]
 have e2:((i:Int)+j).fdiv 2=(((i+j)/2:Nat):Int):=by
  rw[Int.fdiv_eq_ediv_of_nonneg _ (by omega)];omega
 rw[e2]
 exact wrap64 (by omega) (by omega)
def bsNu (xs:List Int) (t:Int):Nat→Nat→Nat→Nat
 |0,i,_=>i
 |f+1,i,j=>bif decide (i<j)then bif decide (bsAu xs ((i+j)/2:Nat)<t)then bsNu xs t f ((i+j)/2+1) j else bsNu xs t f i ((i+j)/2)else i
def bsPu (xs:List Int) (t:Int):Nat:=bsNu xs t (xs.length+1) 0 xs.length
def Λ402u:Lam AV:=fun cur vs K=>
 match cur,vs with
 |0,[.one (.sl false (.int .u64) none xs),.one (.int .u64 t),.one (.int .i64 n),.one (.int .i64 0),.one (.int .i64 j)]=>
  bif decide (n=xs.length)&&(decide (j=xs.length)&&decide ((xs.length:Int)≤4611686018427387903))then K (.exit 0) (vs402u xs t n (bsPu xs t) (bsPu xs t))else none
 |_,_=>none
theorem loop402u:LoopP tb Γ402u Λ402u ⟨54,0,[(0,live402u)]⟩ (loop1 F402):=by
 intro vs K out h
 have hcur:(loop1 F402).1=0:=by kernel_rfl
 rw[hcur]at h⊢
 unfold Λ402u at h
 split at h
 ·rename_i xs t n j _
  cases hc:(decide (n=xs.length)&&(decide (j=xs.length)&&decide ((xs.length:Int)≤4611686018427387903)))with
  |false=>rw[hc]at h;cases h
  |true=>
   rw[hc]at h
   simp only[cond_true]at h
   simp only[Bool.and_eq_true,decide_eq_true_eq]at hc
   obtain⟨rfl,rfl,hmax⟩:=hc
   have key: ∀(f i j:Nat),i≤j→j≤xs.length→j-i<f→K (.exit 0) (vs402u xs t xs.length (bsNu xs t f i j) (bsNu xs t f i j))=some out→ ∃fuel,lo402u Λ402u K fuel (vs402u xs t xs.length i j)=some out:=by
    intro f
    induction f with
    |zero=>intro i j _ _ h;omega
    |succ f ih=>
     intro i j hij hj hf h
     rw[bsNu]at h
     rcases Nat.lt_or_ge i j with hlt|hge
     ·rw[decide_eq_true hlt]at h
      have hm:inB (((i+j)/2:Nat):Int) xs.length=true:=inB_lt (by omega)
      cases hx:decide (bsAu xs ((i+j)/2:Nat)<t)with
      |true=>
       rw[hx]at h
       obtain⟨fuel,hf⟩:=ih ((i+j)/2+1) j (by omega) hj (by omega) h
       refine⟨fuel+1, ?_⟩
       rw[step402u,lt_dec hlt,midW_equ (by omega),hm,hx,wrap64 (n:=(((i+j)/2:Nat):Int)+1) (by omega) (by omega)]
       exact hf
      |false=>
       rw[hx]at h
       obtain⟨fuel,hf⟩:=ih i ((i+j)/2) (by omega) (by omega) (by omega) h
       refine⟨fuel+1, ?_⟩
       rw[step402u,lt_dec hlt,midW_equ (by omega),hm,hx]
       exact hf
     ·obtain rfl:i=j:=by omega
      rw[decide_eq_false (Nat.lt_irrefl _)]at h
      exact⟨1,by rw[step402u,nlt_dec];exact h⟩
   exact key (xs.length+1) 0 xs.length (Nat.zero_le _) (Nat.le_refl _) (by omega) h
 ·cases h
def foundBu (xs:List Int) (t:Int):Bool:=bif decide ((bsPu xs t:Int)<xs.length)then(bif bsAu xs (bsPu xs t)==t then true else false)else false
def bsRu (xs:List Int) (t:Int):AV:= .tup [(false,[.int .i64 (bsPu xs t)]),(false,[.bool (foundBu xs t)])]
theorem r402u (xs:List Int) (t:Int):run Γ402u Λ402u [(0,live402u)] F402 [.one (.sl false U none xs),.one (.int .u64 t)] []=
 bif decide ((xs.length:Int)=xs.length)&&(decide ((xs.length:Int)=xs.length)&&decide ((xs.length:Int)≤4611686018427387903))then
  bif inB (bsPu xs t) xs.length|| !boolBeq (decide ((bsPu xs t:Int)<xs.length)) true then
   bif inB (bsPu xs t) xs.length|| !(boolBeq (decide ((bsPu xs t:Int)<xs.length)) true&&boolBeq (bsAu xs (bsPu xs t)==t) false)then some (bsRu xs t)else none
  else none
 else none:=by kernel_rfl
def s402u:Sp:= .fn [.v (.sl U),.v U] fun x=>(decide (x.1.length ≤1000000),bsRu x.1 x.2)
theorem g402u:GoodS Tryz.prog N402 s402u:=by
 refine good (.cons g422 (.cons g423 (.nil _))) H402 rfl (by kernel_rfl) Λ402u [(0,live402u)] (oneLoop (p0:=loop1 F402) (by kernel_rfl) loop402u) [.v (.sl U),.v U] (by decide) [] _ fun x r hw h=> ?_
 obtain⟨xs,t⟩:=x
 simp only[Prod.mk.injEq,decide_eq_true_eq]at h
 obtain⟨h1,rfl⟩:=h
 refine(r402u xs t).trans ?_
 rw[decide_eq_true rfl,decide_eq_true (show(xs.length:Int)≤4611686018427387903 by omega)]
 have key:(inB (bsPu xs t) xs.length|| !boolBeq (decide ((bsPu xs t:Int)<xs.length)) true)=true∧(inB (bsPu xs t) xs.length|| !(boolBeq (decide ((bsPu xs t:Int)<xs.length)) true&&boolBeq (bsAu xs (bsPu xs t)==t) false))=true:=by
  rcases Nat.lt_or_ge (bsPu xs t) xs.length with h|h
  ·rw[inB_lt h];exact⟨rfl,rfl⟩
  ·rw[decide_eq_false (show ¬(bsPu xs t:Int)<xs.length by omega)]
   exact⟨by simp [boolBeq],by simp [boolBeq]⟩
 rw[key.1,key.2];rfl
theorem bsN_specu {xs:List Int} {t:Int} (hs:xs.Pairwise (· < ·)): ∀(f i j:Nat),i≤j→j≤xs.length→j-i<f→(∀k,k<i→bsAu xs k<t)→(∀k,j≤k→k<xs.length→ ¬bsAu xs k<t)→
 bsNu xs t f i j≤xs.length∧(∀k,k<bsNu xs t f i j→bsAu xs k<t)∧(∀k,bsNu xs t f i j≤k→k<xs.length→ ¬bsAu xs k<t):=by
 have hmono: ∀a b,a<b→b<xs.length→bsAu xs a<bsAu xs b:=fun a b hab hb=>by
  have h:=List.pairwise_iff_getElem.1 hs a b (by omega) hb hab
  unfold bsAu;simpa [show a<xs.length by omega,hb]using h
 intro f
 induction f with
 |zero=>intro i j _ _ h;omega
 |succ f ih=>
  intro i j hij hj hf h1 h2
  rw[bsNu]
  rcases Nat.lt_or_ge i j with hlt|hge
  ·rw[decide_eq_true hlt]
   cases hx:decide (bsAu xs ((i+j)/2:Nat)<t)with
   |true=>
    have hx:=of_decide_eq_true hx
    refine ih _ _ (by omega) hj (by omega) (fun k hk=> ?_) h2
    rcases Nat.lt_or_ge k ((i+j)/2)with h9|h9
    ·exact Int.lt_trans (hmono k _ h9 (by omega)) hx
    ·obtain rfl:k=(i+j)/2:=by omega
     exact hx
   |false=>
    have hx:=of_decide_eq_false hx
    refine ih _ _ (by omega) (by omega) (by omega) h1 fun k hk hkl=> ?_
    rcases Nat.lt_or_ge ((i+j)/2) k with h9|h9
    ·have:=hmono _ k h9 hkl
     omega
    ·obtain rfl:k=(i+j)/2:=by omega
     exact hx
  ·obtain rfl:i=j:=by omega
   rw[decide_eq_false (Nat.lt_irrefl _)]
   exact⟨hj,h1,h2⟩
theorem found_iffu {xs:List Int} {t:Int} (hs:xs.Pairwise (· < ·)):foundBu xs t=true↔t∈xs:=by
 obtain⟨h0,h1,h2⟩:=bsN_specu (t:=t) hs (xs.length+1) 0 xs.length (Nat.zero_le _) (Nat.le_refl _) (by omega) (fun k hk=>by omega) (fun k hk hkl=>by omega)
 change bsPu xs t≤_ at h0
 change ∀k,k<bsPu xs t→_ at h1
 change ∀k,bsPu xs t≤k→_ at h2
 have ha: ∀k (h:k<xs.length),bsAu xs k=xs[k]:=fun k h=>by unfold bsAu;simp [h]
 unfold foundBu
 constructor
 ·intro h
  rcases Nat.lt_or_ge (bsPu xs t) xs.length with hl|hl
  ·rw[decide_eq_true (show(bsPu xs t:Int)<xs.length by omega)]at h
   cases he:bsAu xs (bsPu xs t)==t with
   |false=>rw[he]at h;cases h
   |true=>
    have he:=eq_of_beq he
    rw[←he,ha _ hl];exact List.getElem_mem hl
  ·rw[decide_eq_false (show ¬(bsPu xs t:Int)<xs.length by omega)]at h;cases h
 ·intro h
  obtain⟨k,hk,rfl⟩:=List.getElem_of_mem h
  have e:bsPu xs xs[k]=k:=by
   rcases Nat.lt_trichotomy (bsPu xs xs[k]) k with h9|h9|h9
   ·have hm:=List.pairwise_iff_getElem.1 hs _ k (by omega) hk h9
    have:=h2 _ (Nat.le_refl _) (show bsPu xs xs[k]<xs.length by omega)
    rw[ha _ (show bsPu xs xs[k]<xs.length by omega)]at this
    exact absurd hm this
   ·exact h9
   ·have:=h1 k h9
    rw[ha k hk]at this;exact absurd this (Int.lt_irrefl _)
  rw[e,decide_eq_true (show(k:Int)<xs.length by omega),ha k hk]
  simp
def lbad (a:Int) (l l2:List Int) (i:Int):Bool:=bif !((leafI a (bsAu l2 i)).2==0)then true else bif decide (i>0)then decide (bsAu l (IntKind.i64.wrap (i-1))≥bsAu l2 i)else false
def lgd (a:Int) (l l2:List Int) (i:Int):Bool:=inB (IntKind.i64.wrap (i-1)) l.length|| !(boolBeq (!((leafI a (bsAu l2 i)).2==0)) false&&boolBeq (decide (i>0)) true)
theorem lgd_ok {a:Int} {l l2:List Int} {j:Nat} (hj:j<l.length) (hm:(l.length:Int)≤9223372036854775807):lgd a l l2 j=true:=by
 unfold lgd
 rcases Nat.eq_zero_or_pos j with rfl|h0
 ·simp [boolBeq]
 ·rw[wrap64 (n:=(j:Int)-1) (by omega) (by omega),show((j:Int)-1)=((j-1:Nat):Int) by omega,inB_lt (show j-1<l.length by omega)];rfl
abbrev live400L:List (Nat×Dir):=[(0,.keep),(1,.keep),(4,.keep),(15,.keep),(16,.keep),(17,.keep)]
def vs400L (a:Int) (l:List Int) (e:Int) (l2:List Int) (n i:Int):List AV:=[.one (.int .i64 a),.one (.sl false U none l),.one (.int .i64 e),.one (.sl false U none l2),.one (.int .i64 n),.one (.int .i64 i)]
noncomputable abbrev lo400L (Λ:Lam AV) (K:AE→List AV→Option AV) (fuel:Nat) (vs:List AV):Option AV:=loopN (aexec tb Γ400 Λ ⟨40,0,[(0,live400L)]⟩ (loop1 F400).2 0) 40 0 live400L K fuel vs
theorem step400L (a:Int) (l:List Int) (e:Int) (l2:List Int) (n i:Int) (Λ:Lam AV) (K:AE→List AV→Option AV) (fuel:Nat):lo400L Λ K (fuel+1) (vs400L a l e l2 n i)=
 bif decide (i<n)then bif inB i l2.length then bif lgd a l l2 i then bif lbad a l l2 i then K .ret (vs400L a l 1 l2 n i)else lo400L Λ K fuel (vs400L a l e l2 n (IntKind.i64.wrap (i+1)))else none else none else K (.exit 0) (vs400L a l e l2 n i):=by kernel_rfl
noncomputable def Λ400L:Lam AV:=fun cur vs K=>
 match cur,vs with
 |0,[.one (.int .i64 a),.one (.sl false (.int .u64) none l),.one (.int .i64 e),.one (.sl false (.int .u64) none l2),.one (.int .i64 n),.one (.int .i64 0)]=>
  bif decide (n=l2.length)&&(decide (n≤9223372036854775807)&&decide (l.length=l2.length))then
   (bif decide (idxN (fun i=>lbad a l l2 i) (l2.length) 0<0)then K (.exit 0) (vs400L a l e l2 n n)else K .ret (vs400L a l 1 l2 n (idxN (fun i=>lbad a l l2 i) (l2.length) 0)))
  else none
 |_,_=>none
theorem loop400L:LoopP tb Γ400 Λ400L ⟨40,0,[(0,live400L)]⟩ (loop1 F400):=by
 intro vs K out h
 have hcur:(loop1 F400).1=0:=by kernel_rfl
 rw[hcur]at h⊢
 unfold Λ400L at h
 split at h
 ·rename_i a l e l2 n _
  cases hc:(decide (n=l2.length)&&(decide (n≤9223372036854775807)&&decide (l.length=l2.length)))with
  |false=>rw[hc]at h;cases h
  |true=>
   rw[hc]at h
   simp only[cond_true]at h
   rw[Bool.and_eq_true,Bool.and_eq_true]at hc
   obtain⟨h1,h2,hall⟩:=hc
   have h1:=of_decide_eq_true h1
   have hmax:=of_decide_eq_true h2
   subst h1
   refine findN (ok:=fun i=>inB i l2.length&&lgd a l l2 i) (ans:=fun i=>lbad a l l2 i) (F:=fun fuel i=>lo400L Λ400L K fuel (vs400L a l e l2 (l2.length) i)) (Kx:=fun i=>K (.exit 0) (vs400L a l e l2 (l2.length) i)) (Kr:=fun i=>K .ret (vs400L a l 1 l2 (l2.length) i)) hmax
    (fun fuel i=>(step400L a l e l2 (l2.length) i Λ400L K fuel).trans ?_) (fun j hj=> ?_) h
   ·cases inB i l2.length<;>rfl
   ·have hall:=of_decide_eq_true hall
    show(inB ((j:Nat):Int) l2.length&&lgd a l l2 j)=true
    rw[inB_lt hj,lgd_ok (by omega) (by omega)];rfl
 ·cases h
def lbadA (a:Int) (l:List Int):Bool:=anyN (lbad a l l) l.length
theorem r400L (a:Int) (l:List Int):run Γ400 Λ400L [(0,live400L)] F400 [.one (.int .i64 a),.one (.sl false U none l)] []=
 bif bif chkI a 1 != 0 then true else decide ((l.length:Int)>1024)then some (.one (.int .i64 1))else
 bif decide ((l.length:Int)=l.length)&&(decide ((l.length:Int)≤9223372036854775807)&&decide (l.length=l.length))then
  (bif decide (idxN (fun i=>lbad a l l i) l.length 0<0)then some (.one (.int .i64 0))else some (.one (.int .i64 1)))else none:=by kernel_rfl
def lokB (a:Int) (l:List Int):Bool:= !(bif (bif chkI a 1 != 0 then true else decide ((l.length:Int)>1024))then true else lbadA a l)
def lchkI (a:Int) (l:List Int):Int:=bif lokB a l then 0 else 1
def s400L:Sp:= .fn [.v I,.v (.sl U)] fun x=>(true,.one (.int .i64 (lchkI x.1 x.2)))
theorem g400L:GoodS Tryz.prog N400 s400L:=by
 refine good (.cons g366 (.cons g401 (.nil _))) H400 rfl (by kernel_rfl) Λ400L [(0,live400L)] (oneLoop (p0:=loop1 F400) (by kernel_rfl) loop400L) [.v I,.v (.sl U)] (by decide) [] _ fun x r hw e=> ?_
 obtain⟨a,l⟩:=x
 cases e
 refine(r400L a l).trans ?_
 unfold lchkI lokB
 cases hc:(bif chkI a 1 != 0 then true else decide ((l.length:Int)>1024))with
 |true=>rfl
 |false=>
  have hl:l.length≤1024:=by
   cases h1:chkI a 1 != 0 with
   |true=>rw[h1]at hc;cases hc
   |false=>rw[h1]at hc;have:=of_decide_eq_false hc;omega
  simp only[cond_false,decide_true,Bool.true_and,decide_eq_true (show(l.length:Int)≤9223372036854775807 by omega),cond_true,anyN_not,lbadA,Bool.not_not]
  cases anyN (fun i=>lbad a l l i) l.length<;>rfl
theorem lok_len {a:Int} {l:List Int} (h:lokB a l=true):l.length≤1024∧(chkI a 1 != 0)=false∧lbadA a l=false:=by
 unfold lokB at h
 cases h1:chkI a 1 != 0 with
 |true=>rw[h1]at h;cases h
 |false=>
  rw[h1]at h
  simp only[cond_false]at h
  cases h2:decide ((l.length:Int)>1024)with
  |true=>rw[h2]at h;cases h
  |false=>
   rw[h2]at h
   have h2:=of_decide_eq_false h2
   cases h3:lbadA a l with
   |true=>rw[h3]at h;cases h
   |false=>exact⟨by omega,rfl,rfl⟩
theorem r428n (xs:List Int):run (orc []) noL [] F428 [.one (.sl false U (some true) xs)] [.arr U]=some (.arr true U []):=by kernel_rfl
theorem r428 (xs:List Int):run (orc []) noL [] F428 [.one (.sl false U (some false) xs)] [.arr U]=
 bif decide ((([]:List Int).length+xs.length)*8≤140737488355328)then some (.arr true U ([]++xs))else none:=by kernel_rfl
def s428:Sp:= .fn [.v (.sl U)] fun xs=>(decide (xs.length≤1000000),.arr true U xs)
theorem ks428 (ws:List WK) (args:List AV) (hl:args.length≤F428.ntmps) {r:AV} (h:run (orc []) noL [] F428 args ws=some r):Good Tryz.prog N428 args r:=
 good_of mixed tbOk (.nil _) H428 (bd rfl) rfl rfl args hl ⟨F428.ntmps,0,[]⟩ rfl noL (noLoops (by kernel_rfl)) (kretW_spec ws) h
theorem g428:GoodS Tryz.prog N428 s428:=by
 refine .fn (callable_of H428 (bd rfl) (by kernel_rfl)) fun xs r hw h=> ?_
 have hs:xs.length≤1000000:=of_decide_eq_true (congrArg Prod.fst h)
 obtain rfl:AV.arr true U xs=r:=congrArg Prod.snd h
 refine good_nl (fun e=> ?_) ?_
 ·subst e
  exact ks428 [.arr U] _ (by show 1≤8;omega) (r428n [])
 ·refine ks428 [.arr U] _ (by show 1≤8;omega) ((r428 xs).trans ?_)
  rw[decide_eq_true (by simp only[List.length_nil,Nat.zero_add];omega)]
  simp only[cond_true,List.nil_append]
def Γ369:Orc:=orc [(N400,s400L),(N401,s401),(N402,s402u)]
def findB (a:Int) (l:List Int) (i:Int):Bool:=bif lchkI a l != 0 then true else !((leafI a i).2==0)
theorem r369L (a:Int) (l:List Int) (i:Int):run Γ369 noL [] F369 [.one (.int .i64 a),.one (.sl false U none l),.one (.int .u64 i)] []=
 bif findB a l i then some (rif 0 false 1)else bif decide (l.length≤1000000)then some (rif (bsPu l i) (foundBu l i) 0)else none:=by kernel_rfl
def s369L:Sp:= .fn [.v I,.v (.sl U),.v U] fun x=>(true,bif findB x.1 x.2.1 x.2.2 then rif 0 false 1 else rif (bsPu x.2.1 x.2.2) (foundBu x.2.1 x.2.2) 0)
theorem lchk_ok {a:Int} {l:List Int} (h:(lchkI a l != 0)=false):lokB a l=true:=by
 unfold lchkI at h
 cases h1:lokB a l with
 |true=>rfl
 |false=>rw[h1]at h;cases h
theorem g369L:GoodS Tryz.prog N369 s369L:=by
 refine good (.cons g400L (.cons g401 (.cons g402u (.nil _)))) H369 rfl (by kernel_rfl) noL [] (noLoops (by kernel_rfl)) [.v I,.v (.sl U),.v U] (by decide) [] _ fun x r hw e=> ?_
 obtain⟨a,l,i⟩:=x
 cases e
 refine(r369L a l i).trans ?_
 cases hc:findB a l i with
 |true=>rfl
 |false=>
  have h1:(lchkI a l != 0)=false:=by
   unfold findB at hc
   cases h:lchkI a l != 0 with
   |true=>rw[h]at hc;cases hc
   |false=>rfl
  have:=(lok_len (lchk_ok h1)).1
  rw[decide_eq_true (show l.length≤1000000 by omega)];rfl
theorem lok_at {a:Int} {l:List Int} (h:lokB a l=true) (k:Nat) (hk:k<l.length):((leafI a l[k]).2==0)=true∧(∀(h0:0<k),l[k-1]'(by omega)<l[k]):=by
 obtain⟨h1,h2,h3⟩:=lok_len h
 have h4:lbad a l l k=false:=by
  cases hb:lbad a l l k with
  |false=>rfl
  |true=>have:=anyN_iff.2 ⟨k,hk,hb⟩;unfold lbadA at h3;rw[this]at h3;cases h3
 unfold lbad at h4
 have e1:bsAu l (k:Int)=l[k]:=by unfold bsAu;simp [hk]
 rw[e1]at h4
 cases h5:(leafI a l[k]).2==0 with
 |false=>rw[h5]at h4;cases h4
 |true=>
  rw[h5]at h4
  refine⟨rfl,fun h0=> ?_⟩
  have e2:bsAu l (IntKind.i64.wrap ((k:Int)-1))=l[k-1]'(by omega):=by
   rw[wrap64 (n:=(k:Int)-1) (by omega) (by omega),show((k:Int)-1)=((k-1:Nat):Int) by omega]
   unfold bsAu;simp [show k-1<l.length by omega]
  rw[decide_eq_true (show(k:Int)>0 by omega),e2]at h4
  have h4:=of_decide_eq_false h4
  exact Int.not_le.1 h4
theorem lok_sorted {a:Int} {l:List Int} (h:lokB a l=true):l.Pairwise (· < ·):=by
 refine List.pairwise_iff_getElem.2 fun i j hi hj hij=> ?_
 have key: ∀(d i:Nat) (hi:i+(d+1)<l.length),l[i]'(by omega)<l[i+(d+1)]:=by
  intro d
  induction d with
  |zero=>intro i hi;exact(lok_at h (i+1) hi).2 (by omega)
  |succ d ih=>
   intro i hi
   exact Int.lt_trans (ih i (by omega)) ((lok_at h (i+(d+1+1)) hi).2 (by omega))
 have:=key (j-i-1) i (by omega)
 simpa [show i+(j-i-1+1)=j by omega]using this
theorem lok_leaf {a:Int} {l:List Int} (h:lokB a l=true): ∀x∈l,((leafI a x).2==0)=true:=by
 intro x hx
 obtain⟨k,hk,rfl⟩:=List.getElem_of_mem hx
 exact(lok_at h k hk).1
theorem bsPu_spec {xs:List Int} {t:Int} (hs:xs.Pairwise (· < ·)):bsPu xs t≤xs.length∧(∀k (hk:k<xs.length),k<bsPu xs t→xs[k]<t)∧(∀k (hk:k<xs.length),bsPu xs t≤k→t≤xs[k]):=by
 obtain⟨h0,h1,h2⟩:=bsN_specu (t:=t) hs (xs.length+1) 0 xs.length (Nat.zero_le _) (Nat.le_refl _) (by omega) (fun k hk=>by omega) (fun k hk hkl=>by omega)
 change bsPu xs t≤_ at h0
 change ∀k,k<bsPu xs t→_ at h1
 change ∀k,bsPu xs t≤k→_ at h2
 have ha: ∀k (h:k<xs.length),bsAu xs k=xs[k]:=fun k h=>by unfold bsAu;simp [h]
 exact⟨h0,fun k hk h=>by rw[←ha k hk];exact h1 k h,fun k hk h=>by rw[←ha k hk];exact Int.not_lt.1 (h2 k h hk)⟩
theorem cut_filter {xs:List Int} {lo hi:Int} (hs:xs.Pairwise (· < ·)): ∀ {p q:Nat},(∀k (hk:k<xs.length),k<p→xs[k]<lo)→(∀k (hk:k<xs.length),p≤k→lo≤xs[k])→
 (∀k (hk:k<xs.length),k<q→xs[k]≤hi)→(∀k (hk:k<xs.length),q≤k→hi<xs[k])→(xs.take q).drop p=xs.filter fun x=>decide (lo≤x)&&decide (x≤hi):=by
 induction xs with
 |nil=>intro p q _ _ _ _;simp
 |cons x xs ih=>
  intro p q h1 h2 h3 h4
  have hs':=(List.pairwise_cons.1 hs)
  have e1: ∀p':Nat,(∀k (hk:k<xs.length),k<p'→xs[k]<lo)=(∀k (hk:k<xs.length),k+1<p'+1→(x::xs)[k+1]'(by simp;omega)<lo):=fun p'=>by simp
  cases q with
  |zero=>
   rw[List.take_zero,List.drop_nil]
   have:(x::xs).filter (fun x=>decide (lo≤x)&&decide (x≤hi))=[]:=by
    rw[List.filter_eq_nil_iff]
    intro y hy
    obtain⟨k,hk,rfl⟩:=List.getElem_of_mem hy
    have:=h4 k hk (by omega)
    simp only[Bool.and_eq_true,decide_eq_true_eq];omega
   rw[this]
  |succ q=>
   have hx3:x≤hi:=h3 0 (by simp) (by omega)
   have t3: ∀k (hk:k<xs.length),k<q→xs[k]≤hi:=fun k hk h=>h3 (k+1) (by simp;omega) (by omega)
   have t4: ∀k (hk:k<xs.length),q≤k→hi<xs[k]:=fun k hk h=>h4 (k+1) (by simp;omega) (by omega)
   cases p with
   |zero=>
    have hx1:lo≤x:=h2 0 (by simp) (by omega)
    have:=ih hs'.2 (p:=0) (q:=q) (fun k hk h=>by omega) (fun k hk h=>h2 (k+1) (by simp;omega) (by omega)) t3 t4
    rw[List.filter_cons,if_pos (by simp only[Bool.and_eq_true,decide_eq_true_eq];exact⟨hx1,hx3⟩),←this];rfl
   |succ p=>
    have hx1:x<lo:=h1 0 (by simp) (by omega)
    have:=ih hs'.2 (p:=p) (q:=q) (fun k hk h=>h1 (k+1) (by simp;omega) (by omega)) (fun k hk h=>h2 (k+1) (by simp;omega) (by omega)) t3 t4
    rw[List.filter_cons,if_neg (by simp only[Bool.and_eq_true,decide_eq_true_eq];omega),←this];rfl
def Γ414:Orc:=orc [(N368,s368),(N400,s400L),(N402,s402u),(N428,s428)]
def belowB (a:Int) (l:List Int) (n:Int):Bool:=bif (leavesI a n).2 != 0 then true else lchkI a l != 0
def rlu (l:List Int) (e:Int):AV:= .tup [(false,[.sl true U none l]),(false,[.int .i64 e])]
def belP (a:Int) (l:List Int) (n:Int):Int:=bsPu l (leavesI a n).1.1
def belQ (a:Int) (l:List Int) (n:Int):Int:=bsPu l (IntKind.u64.wrap ((leavesI a n).1.2 +1))
theorem r414 (a:Int) (l:List Int) (n:Int):run Γ414 noL [] F414 [.one (.int .i64 a),.one (.sl false U none l),.one (.int .u64 n)] [.sl true U,.id]=
 bif belowB a l n then some (rlu [] 1)else bif decide (l.length≤1000000)then bif decide (l.length≤1000000)then
  bif decide (0≤belP a l n)&&decide (belP a l n≤belQ a l n)&&decide (belQ a l n≤(l.length:Int))then
   bif decide (((l.take (belQ a l n).toNat).drop (belP a l n).toNat).length≤1000000)then some (rlu ((l.take (belQ a l n).toNat).drop (belP a l n).toNat) 0)else none
  else none else none else none:=by kernel_rfl
def belowL (a:Int) (l:List Int) (n:Int):List Int:=l.filter (within (leavesI a n).1)
theorem leaves_nat {h n:Int} (h0:0≤n) (hk:okN h.toNat n.toNat=true):leavesI h n=
 ((((n.toNat*2^(h.toNat-n.toNat.log2)-2^h.toNat:Nat):Int),((n.toNat*2^(h.toNat-n.toNat.log2)-2^h.toNat+2^(h.toNat-n.toNat.log2)-1:Nat):Int)),0):=by
 have hc:(chkI h n != 0)=false:=by rw[chk_nat h0,hk];rfl
 obtain⟨h1,h2,h3⟩:=chk_zero hc
 have h1:=highB_iff.1 h1
 obtain⟨p1,p2,p3⟩:=okN_pow hk
 have hp:=pow32 (h:=h.toNat) (by omega)
 have hp1:2^(h.toNat+1)=2*2^h.toNat:=by rw[Nat.pow_succ];omega
 unfold leavesI
 rw[hc,dep_nat h2]
 simp only[cond_false]
 have ed:h-(n.toNat.log2:Int)=((h.toNat-n.toNat.log2:Nat):Int):=by omega
 rw[ed]
 generalize hD:h.toNat-n.toNat.log2=d at*
 have hd0:=Nat.two_pow_pos d
 have e1:shlI n d=((n.toNat*2^d:Nat):Int):=by
  have:=shl_nat (a:=n.toNat) (k:=d) (by omega) (by omega)
  rw[←this];congr 1;omega
 have e2:shlI 1 h=((2^h.toNat:Nat):Int):=by
  have:=shl_nat (a:=1) (k:=h.toNat) (by omega) (by omega)
  rw[Nat.one_mul]at this
  rw[←this];congr 1;omega
 have e3:shlI 1 d=((2^d:Nat):Int):=by
  have hd:2^d≤2^32:=pow32 (by omega)
  have:=shl_nat (a:=1) (k:=d) (by omega) (by omega)
  rw[Nat.one_mul]at this
  exact this
 have hlow:lowI h n d=((n.toNat*2^d-2^h.toNat:Nat):Int):=by
  unfold lowI
  rw[e1,e2,wrapU (by omega) (by omega)];omega
 have htop:topI h n d=((n.toNat*2^d-2^h.toNat+2^d-1:Nat):Int):=by
  unfold topI
  rw[hlow,e3,wrapU (n:=_+_) (by omega) (by omega),wrapU (by omega) (by omega)];omega
 rw[hlow,htop]
theorem leaves_ok {h n:Int} (h0:0≤n) (he:((leavesI h n).2 != 0)=false):okN h.toNat n.toNat=true:=by
 cases hk:okN h.toNat n.toNat with
 |true=>rfl
 |false=>
  unfold leavesI at he
  rw[chk_nat h0,hk]at he
  cases he
theorem leaves_bd {a n:Int} (h0:0≤n) (he:((leavesI a n).2 != 0)=false):0≤(leavesI a n).1.1 ∧(leavesI a n).1.1 ≤(leavesI a n).1.2 ∧(leavesI a n).1.2 <4294967296:=by
 have hk:=leaves_ok h0 he
 obtain⟨p1,p2,p3⟩:=okN_pow hk
 obtain⟨q1,q2,q3,q4⟩:=okN_iff.1 hk
 have hp:=pow32 (h:=a.toNat) (by omega)
 have hp1:2^(a.toNat+1)=2*2^a.toNat:=by rw[Nat.pow_succ];omega
 have hd0:=Nat.two_pow_pos (a.toNat-n.toNat.log2)
 rw[leaves_nat h0 hk]
 generalize 2^(a.toNat-n.toNat.log2)=d at*
 refine⟨Int.natCast_nonneg _, ?_, ?_⟩
 ·show((_:Nat):Int)≤((_:Nat):Int);omega
 ·show((_:Nat):Int)<_;omega
def belowR (a:Int) (l:List Int) (n:Int):List Int×Int:=bif belowB a l n then([],1)else(belowL a l n,0)
def s414:Sp:= .fn [.v I,.v (.sl U),.v U] fun x=>(true,rlu (belowR x.1 x.2.1 x.2.2).1 (belowR x.1 x.2.1 x.2.2).2)
theorem g414:GoodS Tryz.prog N414 s414:=by
 refine good (.cons g368 (.cons g400L (.cons g402u (.cons g428 (.nil _))))) H414 rfl (by kernel_rfl) noL [] (noLoops (by kernel_rfl)) [.v I,.v (.sl U),.v U] (by decide) [.sl true U,.id] _ fun x r hw e=> ?_
 obtain⟨a,l,n⟩:=x
 cases e
 refine(r414 a l n).trans ?_
 unfold belowR
 cases hc:belowB a l n with
 |true=>rfl
 |false=>
  have h1:((leavesI a n).2 != 0)=false:=by
   unfold belowB at hc
   cases h:(leavesI a n).2 != 0 with
   |true=>rw[h]at hc;cases hc
   |false=>rfl
  have h2:lokB a l=true:=by
   unfold belowB at hc;rw[h1]at hc;exact lchk_ok hc
  have hl:=(lok_len h2).1
  have hs:=lok_sorted h2
  have h0:0≤n:=hw.2.2.1
  obtain⟨b1,b2,b3⟩:=leaves_bd h0 h1
  obtain⟨c0,c1,c2⟩:=bsPu_spec (t:=(leavesI a n).1.1) hs
  obtain⟨d0,d1,d2⟩:=bsPu_spec (t:=IntKind.u64.wrap ((leavesI a n).1.2 +1)) hs
  have ew:IntKind.u64.wrap ((leavesI a n).1.2 +1)=(leavesI a n).1.2 +1:=wrapU (by omega) (by omega)
  have hpq:bsPu l (leavesI a n).1.1 ≤bsPu l (IntKind.u64.wrap ((leavesI a n).1.2 +1)):=by
   rcases Nat.lt_or_ge (bsPu l (IntKind.u64.wrap ((leavesI a n).1.2 +1))) (bsPu l (leavesI a n).1.1)with h9|h9
   ·have x1:=c1 _ (by omega) h9
    have x2:=d2 _ (show bsPu l (IntKind.u64.wrap ((leavesI a n).1.2 +1))<l.length by omega) (Nat.le_refl _)
    have b4:(leavesI a n).1.2 ≤IntKind.u64.wrap ((leavesI a n).1.2 +1):=by rw[ew];omega
    exact absurd (Int.lt_of_le_of_lt (Int.le_trans (Int.le_trans b2 b4) x2) x1) (Int.lt_irrefl _)
   ·exact h9
  have ef:(l.take (belQ a l n).toNat).drop (belP a l n).toNat=belowL a l n:=by
   unfold belQ belP belowL
   rw[Int.toNat_natCast,Int.toNat_natCast,cut_filter (lo:=(leavesI a n).1.1) (hi:=(leavesI a n).1.2) hs c1 c2 (fun k hk h=>by have:=d1 k hk h;rw[ew]at this;omega) (fun k hk h=>by have:=d2 k hk h;rw[ew]at this;omega)]
   congr 1
   funext x
   unfold within
   cases decide ((leavesI a n).1.1 ≤x)<;>rfl
  rw[ef,decide_eq_true (show l.length≤1000000 by omega)]
  have g1:(decide (0≤belP a l n)&&decide (belP a l n≤belQ a l n)&&decide (belQ a l n≤(l.length:Int)))=true:=by
   unfold belP belQ
   rw[decide_eq_true (by omega),decide_eq_true (by omega),decide_eq_true (by omega)];rfl
  have g2:(belowL a l n).length≤1000000:=Nat.le_trans (List.length_filter_le _ _) (by omega)
  rw[g1,decide_eq_true g2];rfl
end Go.AM.Seat
